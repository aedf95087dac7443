/- Walks: the law EntryBack. -/
import Derived.Test.YtiloeaenpanjcaaR00Copy
import Derived.Test.YtiloeaenpanjcaaE14LawWide
import Derived.Test.YtiloeaenpanjcaaBase16
namespace Go.Proofs.Ytiloeaenpanjcaa
open Go.RowKit Go.Sac
set_option linter.unusedVariables false
set_option linter.unusedSimpArgs false

theorem wpOp_via {P : Program} {ops : Array Oper} {Q : Exit → Act → World → Prop} {i : Nat} {T : Value → World → Prop} {a : Act} {w : World} {o : Oper} (ho : ops[i]? = some o) (hw : Region.wanted o (yielded ops a.tmps) = true)
    (h : ∀ A : Act, (∀ x, A.eval x = a.eval x) → o.wp P A w (fun a' w' => ∃ v, a' = A.put o.dst v ∧ T v w') Q) : wpOp P ops Q i (fun a' w' => ∃ v, a' = a.put o.dst v ∧ T v w') a w := wpOp_go ho hw (h a fun _ => rfl)
theorem named_b (s : ByteArray) (r : Bool) (w : World) (hs : s.size ≤ 140737488351232) (h : namedL s.data.toList = r) :
    Calls Try.prog 12 #[.string s] w fun e w' => e = .returned (.bool r) ∧ Below w.heap.size w w' := by
  subst h; exact named_calls s w hs
def lbv1 (B : Option Addr) (t c6 i : Nat) (xn : ByteArray) (pt : Option Addr) (q : Nat) : Value := [Value.slice B t c6, .int .i64 (i : Int), .pointer pt, .pointer pt, .string xn, .bool true, .bool false, .bool false, .int .i64 (i : Int), .bool false, .bool false, undef, undef, undef, undef, undef, undef, undef, undef, undef, undef, undef, undef, .bool false, .bool false].getD q undef
def lbv2 (B : Option Addr) (t c6 i j : Nat) (xn yn : ByteArray) (pt pj : Option Addr) (q : Nat) : Value := [Value.slice B t c6, .int .i64 (i : Int), .pointer pt, .pointer pt, .string xn, .bool true, .bool false, .bool false, .int .i64 (i : Int), .bool true, .bool true, .slice B t c6, .int .i64 (i : Int), .pointer pt, .pointer pt, .string xn, .slice B t c6, .int .i64 (i : Int), .int .i64 (j : Int), .pointer pj, .pointer pj, .string yn, .bool false, .bool false, .bool false].getD q undef
theorem xor_byte (x : UInt8) (n : Nat) : ∃ q : UInt8, bits .xor .u8 (x.toNat : Int) (2 ^ n % 256) = (q.toNat : Int) := by
  have hb : (0 : Int) ≤ 2 ^ n % 256 ∧ (2 : Int) ^ n % 256 < 256 := ⟨Int.emod_nonneg _ (by decide), Int.emod_lt_of_pos _ (by decide)⟩
  obtain ⟨m, hm⟩ := Int.eq_ofNat_of_zero_le hb.1
  have h : (2 ^ n % 256 : Int) = ((UInt8.ofNat m).toNat : Int) := by
    rw [UInt8.toNat_ofNat', hm]
    have := hb.2
    omega
  rw [h, bits_xor_u8]
  exact ⟨_, rfl⟩
set_option maxHeartbeats 8000000 in
set_option maxRecDepth 100000 in
theorem law_back (A : Option Addr) (c : Nat) (l : List Ent) (B : Option Addr) (d : Nat) (b : List UInt8) (at_ bit : Int) (w : World) (hl : Rc w A (ens l)) (hc : l.length ≤ c) (hn : l.length ≤ 5864062014634) (hi : ∀ y ∈ l, y.1.size ≤ 140737488351232) (hb : Rc w B (bs b)) (hd : b.length ≤ d) (hm : b.length ≤ 140737488351232) (ha : 0 ≤ at_ ∧ at_ ≤ 65535) (hbit : 0 ≤ bit ∧ bit ≤ 255) :
    Calls Try.prog 9 #[.slice A l.length c, .slice B b.length d, .int .u16 at_, .int .u8 bit] w (RetT w) := by
  obtain ⟨n, e1⟩ : ∃ n, n = l.length := ⟨_, rfl⟩
  obtain ⟨m, e2⟩ : ∃ m, m = b.length := ⟨_, rfl⟩
  rw [← e1] at hc hn ⊢
  rw [← e2] at hd hm ⊢
  have HL := Hd.mk hl
  have HE := Hd.mk e1
  have HN : Hd (l.length ≤ 5864062014634) := ⟨by omega⟩
  have HI := Hd.mk hi
  have HBB := Hd.mk hb
  have HM := Hd.mk e2
  have HB : Hd (Below w.heap.size w w) := ⟨Below.refl _ _⟩
  obtain ⟨ha1, ha2⟩ := ha
  obtain ⟨hb1, hb2⟩ := hbit
  clear hl e1 hi hb e2
  obtain ⟨z, hz⟩ : ∃ z, longZ l = z := ⟨_, rfl⟩
  have HZ := Hd.mk hz
  clear hz
  cases d1 : decide (z > 1500)
  · cases d2 : decide ((m : Int) > 1500)
    · have hm1500 : m ≤ 1500 := by simp at d2; omega
      cases hr : rightE l
      · obtain ⟨g1, g2⟩ := enc_wrong hr
        have G1 := Hd.mk g1
        have G2 := Hd.mk g2
        clear hr g1 g2
        by_cases hm0 : m = 0
        · subst hm0
          have T1 : Hd True := ⟨trivial⟩
          go_enter Try.func9, Try.ntmps9
          go_wp2_with (first
            | (go_at_call 13; refine (long_calls _ _ _ l _ (HL.out.below HB.out) HE.out HN.out).mono ?_; rintro e w1 ⟨rfl, hw⟩; obtain rfl : w = w1 := hw.symm; rw [HZ.out])
            | (go_at_call 23; refine (encode_calls _ _ _ l _ (HL.out.below HB.out) HE.out HN.out HI.out).mono ?_; rw [G1.out, G2.out]; rintro e w2 ⟨v2, rfl, ho, hb⟩; obtain ⟨A2, c2, rfl, hcc2, hr2, _⟩ := own_rc ho; have HB := Hd.mk (below_then HB.out HB.out.size hb); clear ho hb hr2)
            | (clear T1; go_at_call 25; refine (decode_calls A2 _ _ [] _ (Rc.nil _ _) rfl (by decide) (by simp)).mono ?_; rintro e w3 ⟨v3, rfl, ho, hb⟩; have HB := Hd.mk (below_then HB.out HB.out.size hb); clear ho hb))
          have R5 := Hd.mk (HBB.out.below HB.out)
          have HM2 := HM
          by_cases hok : decOk b
          · obtain ⟨hrD, hE1, hE2⟩ := enc_dec hok
            obtain ⟨_, hd0⟩ := dec_yes hok
            obtain ⟨D, hD⟩ : ∃ D, decL b = D := ⟨_, rfl⟩
            rw [hD] at hrD hE1 hE2
            obtain ⟨t, ht⟩ : ∃ t, D.length = t := ⟨_, rfl⟩
            obtain ⟨h560, hris, hall⟩ := right_is hrD
            have ht560 : t ≤ 560 := by omega
            have HDS : Hd (∀ y ∈ D, y.1.size ≤ 140737488351232) := ⟨fun y hy => by have := (right_small hrD y hy).1; omega⟩
            have HD := Hd.mk hD
            have HD0 := Hd.mk hd0
            have HE1 := Hd.mk hE1
            have HE2 := Hd.mk hE2
            have HT := Hd.mk ht
            have HRS := Hd.mk hris
            have HALL := Hd.mk hall
            clear hrD hE1 hE2 hd0 hD ht h560 hris hall hok
            refine (decode_calls B 0 d b _ R5.out HM2.out (by have := HM2.out; omega) (Nat.zero_le _)).mono ?_
            rw [HD.out, HD0.out]
            rintro e w6 ⟨v6, rfl, ho, hb⟩
            obtain ⟨A6, c6, rfl, _, hr6, _⟩ := own_rc ho
            rw [HT.out]
            have R6 := Hd.mk hr6
            have R5 := Hd.mk (R5.out.below hb)
            have HB := Hd.mk (below_then HB.out HB.out.size hb)
            clear ho hb hr6
            go_wp2_with (go_at_call 23; refine (encode_calls _ _ _ D _ R6.out HT.out.symm (by have := HT.out; omega) HDS.out).mono ?_; rw [HE1.out, HE2.out]; rintro e w7 ⟨v7, rfl, ho, hb⟩; obtain ⟨A7, c7, rfl, _, hr7, _⟩ := own_rc ho; have R7 := Hd.mk hr7; have R6 := Hd.mk (R6.out.below hb); have R5 := Hd.mk (R5.out.below hb); have HB := Hd.mk (below_then HB.out HB.out.size hb); clear ho hb hr7)
            go_loopw [19] (fun iv wr => ∃ i : Nat, iv = .int .i64 (i : Int) ∧ i ≤ t ∧ Hd (Below w7.heap.size w7 wr)) (fun iv _ => t - (intOf iv).toNat)
            case atStart => exact ⟨0, rfl, Nat.zero_le _, ⟨Below.refl _ _⟩⟩
            case round =>
              obtain ⟨i, rfl, hi, HW⟩ := hrel
              by_cases hlt : i < t
              · have hit : i < D.length := by rw [HT.out]; exact hlt
                have hil : (i : Int) < (t : Int) := by omega
                obtain ⟨b6, o6, rfl, hcell⟩ := node_cell R6.out i hit
                have hnam := (HALL.out _ (List.getElem_mem hit)).1
                have hsx := HDS.out _ (List.getElem_mem hit)
                have hprev : ∀ j, i = j + 1 → ∃ yn, gtN D[i].1 yn = true ∧ ∀ W, Below w7.heap.size w7 W → W.cell? ⟨b6, o6 + j * 2, none⟩ = some (.string yn) := fun j hj => by
                  have hjl : j < D.length := by omega
                  obtain ⟨b', o', e, hc'⟩ := node_cell R6.out j hjl
                  injection e with e
                  injection e with e1 e2
                  subst e1; subst e2
                  exact ⟨D[j].1, List.pairwise_iff_getElem.1 HRS.out j i hjl hit (by omega), fun W hW => (hc' W hW).1⟩
                obtain ⟨xn, hxn⟩ : ∃ xn, D[i].1 = xn := ⟨_, rfl⟩
                rw [hxn] at hcell hnam hsx
                have HC6 : ∀ W, Aft wr W → W.cell? ⟨b6, o6 + i * 2, none⟩ = some (.string xn) := fun W h => (hcell W (below_then HW.out HW.out.size h)).1
                have HNM := Hd.mk hnam
                have HSX := Hd.mk hsx
                clear hcell hnam hsx
                by_cases h0 : i = 0
                · have d0 : decide (0 < i) = false := by simp; omega
                  clear hprev hxn hit h0
                  go_wp2
                  refine region_win #[Value.slice A n c, Value.slice B 0 d, Value.int IntKind.u16 at_, Value.int IntKind.u8 bit, undef, undef, undef, undef, u8, Value.slice A2 0 c2, Value.int IntKind.i64 2, v3, Value.int IntKind.i64 (decR []), undef, undef, Value.slice (some ⟨b6, o6, none⟩) t c6, Value.int IntKind.i64 0, Value.slice A7 b.length c7, Value.int IntKind.i64 0, Value.int IntKind.i64 (i : Int), Value.slice A n c, Value.int IntKind.i64 z, Value.bool false, Value.bool false, Value.slice B 0 d, Value.int IntKind.i64 0, Value.bool false, Value.bool false, undef, Value.tuple #[Value.slice A2 0 c2, Value.int IntKind.i64 2], Value.slice A n c, Value.tuple #[Value.slice A2 0 c2, Value.int IntKind.i64 2], Value.slice A2 0 c2, Value.int IntKind.i64 2, Value.tuple #[v3, Value.int IntKind.i64 (decR [])], Value.slice A2 0 c2, Value.tuple #[v3, Value.int IntKind.i64 (decR [])], v3, Value.int IntKind.i64 (decR []), Value.int IntKind.i64 2, Value.bool false, Value.bool false, undef, undef, undef, undef, undef, undef, undef, undef, undef, undef, undef, undef, undef, undef, undef, undef, Value.bool false, Value.slice B 0 d, Value.int IntKind.i64 0, Value.bool false, undef, undef, undef, undef, undef, undef, undef, undef, undef, undef, undef, undef, undef, undef, undef, undef, undef, undef, undef, Value.tuple #[Value.slice (some ⟨b6, o6, none⟩) t c6, Value.int IntKind.i64 0], Value.slice B 0 d, Value.tuple #[Value.slice (some ⟨b6, o6, none⟩) t c6, Value.int IntKind.i64 0], Value.slice (some ⟨b6, o6, none⟩) t c6, Value.int IntKind.i64 0, Value.int IntKind.i64 0, Value.bool false, undef, undef, undef, undef, undef, undef, Value.tuple #[Value.slice A7 b.length c7, Value.int IntKind.i64 0], Value.slice (some ⟨b6, o6, none⟩) t c6, Value.tuple #[Value.slice A7 b.length c7, Value.int IntKind.i64 0], Value.slice A7 b.length c7, Value.int IntKind.i64 0, Value.int IntKind.i64 (i : Int), Value.slice (some ⟨b6, o6, none⟩) t c6, Value.int IntKind.i64 (t : Int), Value.bool true, u103, u104, Value.slice (some ⟨b6, o6, none⟩) t c6, Value.int .i64 (i : Int), Value.pointer (some ⟨b6, o6 + i * 2, none⟩), Value.pointer (some ⟨b6, o6 + i * 2, none⟩), Value.string xn, Value.bool true, Value.bool false, Value.bool false, Value.int .i64 (i : Int), Value.bool false, Value.bool false, undef, undef, undef, undef, undef, undef, undef, undef, undef, undef, undef, undef, Value.bool false, Value.bool false, undef, undef, undef, undef, undef, undef, undef, undef, undef, undef]
                    105 (lbv1 (some ⟨b6, o6, none⟩) t c6 i xn (some ⟨b6, o6 + i * 2, none⟩)) (fun W => Aft wr W) [(15, Value.slice (some ⟨b6, o6, none⟩) t c6), (19, Value.int .i64 (i : Int))] (by kernel_rfl) (by kernel_rfl) (by kernel_rfl) (by kernel_rfl) (by kernel_rfl) (by kernel_rfl) (by kernel_rfl) (by kernel_rfl) (Aft.start wr) ?steps ?fin
                  case steps =>
                    refine StepsAt.cons ?_ (StepsAt.cons ?_ (StepsAt.cons ?_ (StepsAt.cons ?_ (StepsAt.cons ?_ (StepsAt.cons ?_ (StepsAt.cons ?_ (StepsAt.cons ?_ (StepsAt.cons ?_ (StepsAt.cons ?_ (StepsAt.cons ?_ (StepsAt.cons ?_ (StepsAt.cons ?_ (StepsAt.cons ?_ (StepsAt.cons ?_ (StepsAt.cons ?_ (StepsAt.cons ?_ (StepsAt.cons ?_ (StepsAt.cons ?_ (StepsAt.cons ?_ (StepsAt.cons ?_ (StepsAt.cons ?_ (StepsAt.cons ?_ (StepsAt.cons ?_ (StepsAt.cons ?_ StepsAt.nil))))))))))))))))))))))))
                    · refine StepAt.go rfl fun Q A w6 hG hlow hp => ?_
                      have e15 : A.tmps.getD 15 undef = Value.slice (some ⟨b6, o6, none⟩) t c6 := hlow (15, _) (by simp)
                      clear hlow hp
                      go_simp
                      first | rfl | exact ⟨_, rfl, hG, rfl⟩ | exact ⟨hG, rfl⟩
                    · refine StepAt.go rfl fun Q A w6 hG hlow hp => ?_
                      have e19 : A.tmps.getD 19 undef = Value.int .i64 (i : Int) := hlow (19, _) (by simp)
                      clear hlow hp
                      go_simp
                      first | rfl | exact ⟨_, rfl, hG, rfl⟩ | exact ⟨hG, rfl⟩
                    · refine StepAt.go rfl fun Q A w6 hG hlow hp => ?_
                      have e105 : A.tmps.getD 105 undef = Value.slice (some ⟨b6, o6, none⟩) t c6 := hp ⟨0, .data⟩ (by simp) rfl
                      have e106 : A.tmps.getD 106 undef = Value.int .i64 (i : Int) := hp ⟨1, .data⟩ (by simp) rfl
                      clear hlow hp
                      go_simp
                      first | rfl | exact ⟨_, rfl, hG, rfl⟩ | exact ⟨hG, rfl⟩
                    · refine StepAt.go rfl fun Q A w6 hG hlow hp => ?_
                      have e107 : A.tmps.getD 107 undef = Value.pointer (some ⟨b6, o6 + i * 2, none⟩) := hp ⟨2, .data⟩ (by simp) rfl
                      clear hlow hp
                      go_simp
                      first | rfl | exact ⟨_, rfl, hG, rfl⟩ | exact ⟨hG, rfl⟩
                    · refine StepAt.go rfl fun Q A w6 hG hlow hp => ?_
                      have e108 : A.tmps.getD 108 undef = Value.pointer (some ⟨b6, o6 + i * 2, none⟩) := hp ⟨3, .data⟩ (by simp) rfl
                      clear hlow hp
                      have hc := HC6 w6 hG
                      go_simp
                      first | rfl | exact ⟨_, rfl, hG, rfl⟩ | exact ⟨hG, rfl⟩
                    · refine StepAt.go rfl fun Q A w6 hG hlow hp => ?_
                      have e109 : A.tmps.getD 109 undef = Value.string xn := hp ⟨4, .data⟩ (by simp) rfl
                      clear hlow hp
                      go_simp
                      refine (named_b xn true _ HSX.out HNM.out).mono ?_
                      rintro e w7 ⟨rfl, hb⟩
                      first | exact ⟨_, rfl, hG.call hb, rfl⟩ | exact ⟨rfl, hG.call hb⟩ | exact ⟨rfl, hG.call hb, rfl⟩
                    · refine StepAt.go rfl fun Q A w6 hG hlow hp => ?_
                      have e110 : A.tmps.getD 110 undef = Value.bool true := hp ⟨5, .data⟩ (by simp) rfl
                      clear hlow hp
                      go_simp
                      first | rfl | exact ⟨_, rfl, hG, rfl⟩ | exact ⟨hG, rfl⟩
                    · refine StepAt.go rfl fun Q A w6 hG hlow hp => ?_
                      have e111 : A.tmps.getD 111 undef = Value.bool false := hp ⟨6, .data⟩ (by simp) rfl
                      clear hlow hp
                      go_simp
                      first | rfl | exact ⟨_, rfl, hG, rfl⟩ | exact ⟨hG, rfl⟩
                    · refine StepAt.go rfl fun Q A w6 hG hlow hp => ?_
                      have e19 : A.tmps.getD 19 undef = Value.int .i64 (i : Int) := hlow (19, _) (by simp)
                      clear hlow hp
                      go_simp
                      first | rfl | exact ⟨_, rfl, hG, rfl⟩ | exact ⟨hG, rfl⟩
                    · refine StepAt.go rfl fun Q A w6 hG hlow hp => ?_
                      have e113 : A.tmps.getD 113 undef = Value.int .i64 (i : Int) := hp ⟨8, .data⟩ (by simp) rfl
                      clear hlow hp
                      go_simp
                      first | rfl | exact ⟨_, rfl, hG, rfl⟩ | exact ⟨hG, rfl⟩
                    · refine StepAt.go rfl fun Q A w6 hG hlow hp => ?_
                      have e114 : A.tmps.getD 114 undef = Value.bool false := hp ⟨9, .data⟩ (by simp) rfl
                      clear hlow hp
                      go_simp
                      first | rfl | exact ⟨_, rfl, hG, rfl⟩ | exact ⟨hG, rfl⟩
                    · exact StepAt.past rfl rfl
                    · exact StepAt.past rfl rfl
                    · exact StepAt.past rfl rfl
                    · exact StepAt.past rfl rfl
                    · exact StepAt.past rfl rfl
                    · exact StepAt.past rfl rfl
                    · exact StepAt.past rfl rfl
                    · exact StepAt.past rfl rfl
                    · exact StepAt.past rfl rfl
                    · exact StepAt.past rfl rfl
                    · exact StepAt.past rfl rfl
                    · exact StepAt.past rfl rfl
                    · refine StepAt.go rfl fun Q A w6 hG hlow hp => ?_
                      have e115 : A.tmps.getD 115 undef = Value.bool false := hp ⟨10, .data⟩ (by simp) rfl
                      have e127 : A.tmps.getD 127 undef = undef := hp ⟨22, .data⟩ (by simp) rfl
                      clear hlow hp
                      go_simp
                      first | rfl | exact ⟨_, rfl, hG, rfl⟩ | exact ⟨hG, rfl⟩
                    · refine StepAt.go rfl fun Q A w6 hG hlow hp => ?_
                      have e112 : A.tmps.getD 112 undef = Value.bool false := hp ⟨7, .data⟩ (by simp) rfl
                      have e128 : A.tmps.getD 128 undef = Value.bool false := hp ⟨23, .data⟩ (by simp) rfl
                      clear hlow hp
                      go_simp
                      first | rfl | exact ⟨_, rfl, hG, rfl⟩ | exact ⟨hG, rfl⟩
                  case fin =>
                    intro w6 hG
                    have HW := Hd.mk (below_then HW.out HW.out.size hG)
                    clear hG
                    go_wp2
                    go_roundw
                    case rel => exact ⟨i + 1, by go_num, by omega, HW⟩
                    case measure => simp [intOf]; omega
                · obtain ⟨j, hj⟩ : ∃ j, i = j + 1 := ⟨i - 1, by omega⟩
                  obtain ⟨yn, hgt, hcy⟩ := hprev j hj
                  rw [hxn] at hgt
                  have HC7 : ∀ W, Aft wr W → W.cell? ⟨b6, o6 + j * 2, none⟩ = some (.string yn) := fun W h => hcy W (below_then HW.out HW.out.size h)
                  have d0 : decide (0 < i) = true := by simp; omega
                  have hjm : (i : Int) - 1 = (j : Int) := by omega
                  have hjn : (j : Int) < (t : Int) := by omega
                  have hwj : IntKind.i64.wrap (j : Int) = (j : Int) := by rw [IntKind.wrap_i64]; omega
                  rcases gt_ways xn yn with ⟨g0, _⟩ | ⟨g0, _, _⟩ | ⟨_, g1, g2⟩
                  · rw [hgt] at g0; cases g0
                  · rw [hgt] at g0; cases g0
                  clear hprev hxn hit hcy hgt h0 hj
                  go_wp2
                  refine region_win #[Value.slice A n c, Value.slice B 0 d, Value.int IntKind.u16 at_, Value.int IntKind.u8 bit, undef, undef, undef, undef, u8, Value.slice A2 0 c2, Value.int IntKind.i64 2, v3, Value.int IntKind.i64 (decR []), undef, undef, Value.slice (some ⟨b6, o6, none⟩) t c6, Value.int IntKind.i64 0, Value.slice A7 b.length c7, Value.int IntKind.i64 0, Value.int IntKind.i64 (i : Int), Value.slice A n c, Value.int IntKind.i64 z, Value.bool false, Value.bool false, Value.slice B 0 d, Value.int IntKind.i64 0, Value.bool false, Value.bool false, undef, Value.tuple #[Value.slice A2 0 c2, Value.int IntKind.i64 2], Value.slice A n c, Value.tuple #[Value.slice A2 0 c2, Value.int IntKind.i64 2], Value.slice A2 0 c2, Value.int IntKind.i64 2, Value.tuple #[v3, Value.int IntKind.i64 (decR [])], Value.slice A2 0 c2, Value.tuple #[v3, Value.int IntKind.i64 (decR [])], v3, Value.int IntKind.i64 (decR []), Value.int IntKind.i64 2, Value.bool false, Value.bool false, undef, undef, undef, undef, undef, undef, undef, undef, undef, undef, undef, undef, undef, undef, undef, undef, Value.bool false, Value.slice B 0 d, Value.int IntKind.i64 0, Value.bool false, undef, undef, undef, undef, undef, undef, undef, undef, undef, undef, undef, undef, undef, undef, undef, undef, undef, undef, undef, Value.tuple #[Value.slice (some ⟨b6, o6, none⟩) t c6, Value.int IntKind.i64 0], Value.slice B 0 d, Value.tuple #[Value.slice (some ⟨b6, o6, none⟩) t c6, Value.int IntKind.i64 0], Value.slice (some ⟨b6, o6, none⟩) t c6, Value.int IntKind.i64 0, Value.int IntKind.i64 0, Value.bool false, undef, undef, undef, undef, undef, undef, Value.tuple #[Value.slice A7 b.length c7, Value.int IntKind.i64 0], Value.slice (some ⟨b6, o6, none⟩) t c6, Value.tuple #[Value.slice A7 b.length c7, Value.int IntKind.i64 0], Value.slice A7 b.length c7, Value.int IntKind.i64 0, Value.int IntKind.i64 (i : Int), Value.slice (some ⟨b6, o6, none⟩) t c6, Value.int IntKind.i64 (t : Int), Value.bool true, u103, u104, Value.slice (some ⟨b6, o6, none⟩) t c6, Value.int .i64 (i : Int), Value.pointer (some ⟨b6, o6 + i * 2, none⟩), Value.pointer (some ⟨b6, o6 + i * 2, none⟩), Value.string xn, Value.bool true, Value.bool false, Value.bool false, Value.int .i64 (i : Int), Value.bool true, Value.bool true, Value.slice (some ⟨b6, o6, none⟩) t c6, Value.int .i64 (i : Int), Value.pointer (some ⟨b6, o6 + i * 2, none⟩), Value.pointer (some ⟨b6, o6 + i * 2, none⟩), Value.string xn, Value.slice (some ⟨b6, o6, none⟩) t c6, Value.int .i64 (i : Int), Value.int .i64 (j : Int), Value.pointer (some ⟨b6, o6 + j * 2, none⟩), Value.pointer (some ⟨b6, o6 + j * 2, none⟩), Value.string yn, Value.bool false, Value.bool false, Value.bool false, undef, undef, undef, undef, undef, undef, undef, undef, undef, undef]
                    105 (lbv2 (some ⟨b6, o6, none⟩) t c6 i j xn yn (some ⟨b6, o6 + i * 2, none⟩) (some ⟨b6, o6 + j * 2, none⟩)) (fun W => Aft wr W) [(15, Value.slice (some ⟨b6, o6, none⟩) t c6), (19, Value.int .i64 (i : Int))] (by kernel_rfl) (by kernel_rfl) (by kernel_rfl) (by kernel_rfl) (by kernel_rfl) (by kernel_rfl) (by kernel_rfl) (by kernel_rfl) (Aft.start wr) ?steps ?fin
                  case steps =>
                    refine StepsAt.cons ?_ (StepsAt.cons ?_ (StepsAt.cons ?_ (StepsAt.cons ?_ (StepsAt.cons ?_ (StepsAt.cons ?_ (StepsAt.cons ?_ (StepsAt.cons ?_ (StepsAt.cons ?_ (StepsAt.cons ?_ (StepsAt.cons ?_ (StepsAt.cons ?_ (StepsAt.cons ?_ (StepsAt.cons ?_ (StepsAt.cons ?_ (StepsAt.cons ?_ (StepsAt.cons ?_ (StepsAt.cons ?_ (StepsAt.cons ?_ (StepsAt.cons ?_ (StepsAt.cons ?_ (StepsAt.cons ?_ (StepsAt.cons ?_ (StepsAt.cons ?_ (StepsAt.cons ?_ StepsAt.nil))))))))))))))))))))))))
                    · refine StepAt.go rfl fun Q A w6 hG hlow hp => ?_
                      have e15 : A.tmps.getD 15 undef = Value.slice (some ⟨b6, o6, none⟩) t c6 := hlow (15, _) (by simp)
                      clear hlow hp
                      go_simp
                      first | rfl | exact ⟨_, rfl, hG, rfl⟩ | exact ⟨hG, rfl⟩
                    · refine StepAt.go rfl fun Q A w6 hG hlow hp => ?_
                      have e19 : A.tmps.getD 19 undef = Value.int .i64 (i : Int) := hlow (19, _) (by simp)
                      clear hlow hp
                      go_simp
                      first | rfl | exact ⟨_, rfl, hG, rfl⟩ | exact ⟨hG, rfl⟩
                    · refine StepAt.go rfl fun Q A w6 hG hlow hp => ?_
                      have e105 : A.tmps.getD 105 undef = Value.slice (some ⟨b6, o6, none⟩) t c6 := hp ⟨0, .data⟩ (by simp) rfl
                      have e106 : A.tmps.getD 106 undef = Value.int .i64 (i : Int) := hp ⟨1, .data⟩ (by simp) rfl
                      clear hlow hp
                      go_simp
                      first | rfl | exact ⟨_, rfl, hG, rfl⟩ | exact ⟨hG, rfl⟩
                    · refine StepAt.go rfl fun Q A w6 hG hlow hp => ?_
                      have e107 : A.tmps.getD 107 undef = Value.pointer (some ⟨b6, o6 + i * 2, none⟩) := hp ⟨2, .data⟩ (by simp) rfl
                      clear hlow hp
                      go_simp
                      first | rfl | exact ⟨_, rfl, hG, rfl⟩ | exact ⟨hG, rfl⟩
                    · refine StepAt.go rfl fun Q A w6 hG hlow hp => ?_
                      have e108 : A.tmps.getD 108 undef = Value.pointer (some ⟨b6, o6 + i * 2, none⟩) := hp ⟨3, .data⟩ (by simp) rfl
                      clear hlow hp
                      have hc := HC6 w6 hG
                      go_simp
                      first | rfl | exact ⟨_, rfl, hG, rfl⟩ | exact ⟨hG, rfl⟩
                    · refine StepAt.go rfl fun Q A w6 hG hlow hp => ?_
                      have e109 : A.tmps.getD 109 undef = Value.string xn := hp ⟨4, .data⟩ (by simp) rfl
                      clear hlow hp
                      go_simp
                      refine (named_b xn true _ HSX.out HNM.out).mono ?_
                      rintro e w7 ⟨rfl, hb⟩
                      first | exact ⟨_, rfl, hG.call hb, rfl⟩ | exact ⟨rfl, hG.call hb⟩ | exact ⟨rfl, hG.call hb, rfl⟩
                    · refine StepAt.go rfl fun Q A w6 hG hlow hp => ?_
                      have e110 : A.tmps.getD 110 undef = Value.bool true := hp ⟨5, .data⟩ (by simp) rfl
                      clear hlow hp
                      go_simp
                      first | rfl | exact ⟨_, rfl, hG, rfl⟩ | exact ⟨hG, rfl⟩
                    · refine StepAt.go rfl fun Q A w6 hG hlow hp => ?_
                      have e111 : A.tmps.getD 111 undef = Value.bool false := hp ⟨6, .data⟩ (by simp) rfl
                      clear hlow hp
                      go_simp
                      first | rfl | exact ⟨_, rfl, hG, rfl⟩ | exact ⟨hG, rfl⟩
                    · refine StepAt.go rfl fun Q A w6 hG hlow hp => ?_
                      have e19 : A.tmps.getD 19 undef = Value.int .i64 (i : Int) := hlow (19, _) (by simp)
                      clear hlow hp
                      go_simp
                      first | rfl | exact ⟨_, rfl, hG, rfl⟩ | exact ⟨hG, rfl⟩
                    · refine StepAt.go rfl fun Q A w6 hG hlow hp => ?_
                      have e113 : A.tmps.getD 113 undef = Value.int .i64 (i : Int) := hp ⟨8, .data⟩ (by simp) rfl
                      clear hlow hp
                      go_simp
                      first | rfl | exact ⟨_, rfl, hG, rfl⟩ | exact ⟨hG, rfl⟩
                    · refine StepAt.go rfl fun Q A w6 hG hlow hp => ?_
                      have e114 : A.tmps.getD 114 undef = Value.bool true := hp ⟨9, .data⟩ (by simp) rfl
                      clear hlow hp
                      go_simp
                      first | rfl | exact ⟨_, rfl, hG, rfl⟩ | exact ⟨hG, rfl⟩
                    · refine StepAt.go rfl fun Q A w6 hG hlow hp => ?_
                      have e15 : A.tmps.getD 15 undef = Value.slice (some ⟨b6, o6, none⟩) t c6 := hlow (15, _) (by simp)
                      clear hlow hp
                      go_simp
                      first | rfl | exact ⟨_, rfl, hG, rfl⟩ | exact ⟨hG, rfl⟩
                    · refine StepAt.go rfl fun Q A w6 hG hlow hp => ?_
                      have e19 : A.tmps.getD 19 undef = Value.int .i64 (i : Int) := hlow (19, _) (by simp)
                      clear hlow hp
                      go_simp
                      first | rfl | exact ⟨_, rfl, hG, rfl⟩ | exact ⟨hG, rfl⟩
                    · refine StepAt.go rfl fun Q A w6 hG hlow hp => ?_
                      have e116 : A.tmps.getD 116 undef = Value.slice (some ⟨b6, o6, none⟩) t c6 := hp ⟨11, .data⟩ (by simp) rfl
                      have e117 : A.tmps.getD 117 undef = Value.int .i64 (i : Int) := hp ⟨12, .data⟩ (by simp) rfl
                      clear hlow hp
                      go_simp
                      first | rfl | exact ⟨_, rfl, hG, rfl⟩ | exact ⟨hG, rfl⟩
                    · refine StepAt.go rfl fun Q A w6 hG hlow hp => ?_
                      have e118 : A.tmps.getD 118 undef = Value.pointer (some ⟨b6, o6 + i * 2, none⟩) := hp ⟨13, .data⟩ (by simp) rfl
                      clear hlow hp
                      go_simp
                      first | rfl | exact ⟨_, rfl, hG, rfl⟩ | exact ⟨hG, rfl⟩
                    · refine StepAt.go rfl fun Q A w6 hG hlow hp => ?_
                      have e119 : A.tmps.getD 119 undef = Value.pointer (some ⟨b6, o6 + i * 2, none⟩) := hp ⟨14, .data⟩ (by simp) rfl
                      clear hlow hp
                      have hc := HC6 w6 hG
                      go_simp
                      first | rfl | exact ⟨_, rfl, hG, rfl⟩ | exact ⟨hG, rfl⟩
                    · refine StepAt.go rfl fun Q A w6 hG hlow hp => ?_
                      have e15 : A.tmps.getD 15 undef = Value.slice (some ⟨b6, o6, none⟩) t c6 := hlow (15, _) (by simp)
                      clear hlow hp
                      go_simp
                      first | rfl | exact ⟨_, rfl, hG, rfl⟩ | exact ⟨hG, rfl⟩
                    · refine StepAt.go rfl fun Q A w6 hG hlow hp => ?_
                      have e19 : A.tmps.getD 19 undef = Value.int .i64 (i : Int) := hlow (19, _) (by simp)
                      clear hlow hp
                      go_simp
                      first | rfl | exact ⟨_, rfl, hG, rfl⟩ | exact ⟨hG, rfl⟩
                    · refine StepAt.go rfl fun Q A w6 hG hlow hp => ?_
                      have e122 : A.tmps.getD 122 undef = Value.int .i64 (i : Int) := hp ⟨17, .data⟩ (by simp) rfl
                      clear hlow hp
                      go_simp
                      first | rfl | exact ⟨_, rfl, hG, rfl⟩ | exact ⟨hG, rfl⟩
                    · refine StepAt.go rfl fun Q A w6 hG hlow hp => ?_
                      have e121 : A.tmps.getD 121 undef = Value.slice (some ⟨b6, o6, none⟩) t c6 := hp ⟨16, .data⟩ (by simp) rfl
                      have e123 : A.tmps.getD 123 undef = Value.int .i64 (j : Int) := hp ⟨18, .data⟩ (by simp) rfl
                      clear hlow hp
                      go_simp
                      first | rfl | exact ⟨_, rfl, hG, rfl⟩ | exact ⟨hG, rfl⟩
                    · refine StepAt.go rfl fun Q A w6 hG hlow hp => ?_
                      have e124 : A.tmps.getD 124 undef = Value.pointer (some ⟨b6, o6 + j * 2, none⟩) := hp ⟨19, .data⟩ (by simp) rfl
                      clear hlow hp
                      go_simp
                      first | rfl | exact ⟨_, rfl, hG, rfl⟩ | exact ⟨hG, rfl⟩
                    · refine StepAt.go rfl fun Q A w6 hG hlow hp => ?_
                      have e125 : A.tmps.getD 125 undef = Value.pointer (some ⟨b6, o6 + j * 2, none⟩) := hp ⟨20, .data⟩ (by simp) rfl
                      clear hlow hp
                      have hc := HC7 w6 hG
                      go_simp
                      first | rfl | exact ⟨_, rfl, hG, rfl⟩ | exact ⟨hG, rfl⟩
                    · refine StepAt.go rfl fun Q A w6 hG hlow hp => ?_
                      have e120 : A.tmps.getD 120 undef = Value.string xn := hp ⟨15, .data⟩ (by simp) rfl
                      have e126 : A.tmps.getD 126 undef = Value.string yn := hp ⟨21, .data⟩ (by simp) rfl
                      clear hlow hp
                      go_simp
                      first | rfl | exact ⟨_, rfl, hG, rfl⟩ | exact ⟨hG, rfl⟩
                    · refine StepAt.go rfl fun Q A w6 hG hlow hp => ?_
                      have e115 : A.tmps.getD 115 undef = Value.bool true := hp ⟨10, .data⟩ (by simp) rfl
                      have e127 : A.tmps.getD 127 undef = Value.bool false := hp ⟨22, .data⟩ (by simp) rfl
                      clear hlow hp
                      go_simp
                      first | rfl | exact ⟨_, rfl, hG, rfl⟩ | exact ⟨hG, rfl⟩
                    · refine StepAt.go rfl fun Q A w6 hG hlow hp => ?_
                      have e112 : A.tmps.getD 112 undef = Value.bool false := hp ⟨7, .data⟩ (by simp) rfl
                      have e128 : A.tmps.getD 128 undef = Value.bool false := hp ⟨23, .data⟩ (by simp) rfl
                      clear hlow hp
                      go_simp
                      first | rfl | exact ⟨_, rfl, hG, rfl⟩ | exact ⟨hG, rfl⟩
                  case fin =>
                    intro w6 hG
                    have HW := Hd.mk (below_then HW.out HW.out.size hG)
                    clear hG
                    go_wp2
                    go_roundw
                    case rel => exact ⟨i + 1, by go_num, by omega, HW⟩
                    case measure => simp [intOf]; omega
              · obtain rfl : i = t := by omega
                go_wp2_with (first
                  | (go_at_call 27; refine (same_b _ _ _ _ _ _ b b _ (R7.out.below HW.out) (R5.out.below HW.out) rfl HM2.out rfl).mono ?_; rintro e w8 ⟨rfl, hw⟩; obtain rfl := hw.symm)
                  | (go_at_call 11; refine (known_calls _).mono ?_; rintro e w12 ⟨rfl, hb⟩; have HB := Hd.mk (below_then HB.out HB.out.size (below_then HW.out HW.out.size hb)); clear hb))
                go_ret
                exact ⟨rfl, HB.out⟩
          · obtain ⟨hd1, hd2⟩ := dec_no hok
            have HD1 := Hd.mk hd1
            have HD2 := Hd.mk hd2
            clear hok hd1 hd2
            refine (decode_calls B 0 d b _ R5.out HM2.out (by have := HM2.out; omega) (Nat.zero_le _)).mono ?_
            rw [HD1.out, HD2.out]
            rintro e w6 ⟨v6, rfl, ho, hb⟩
            obtain ⟨A6, c6, rfl, _, hr6, _⟩ := own_rc ho
            have HB := Hd.mk (below_then HB.out HB.out.size hb)
            clear ho hb hr6
            go_wp2_with (go_at_call 11; refine (known_calls _).mono ?_; rintro e w12 ⟨rfl, hb⟩; have HB := Hd.mk (below_then HB.out HB.out.size hb); clear hb)
            go_ret
            exact ⟨rfl, HB.out⟩
        · have hmp : (0 : Int) < (m : Int) := by omega
          obtain ⟨k, hk⟩ : ∃ k : Nat, at_ % (m : Int) = (k : Int) := ⟨(at_ % (m : Int)).toNat, by have := Int.emod_nonneg at_ (show (m : Int) ≠ 0 by omega); omega⟩
          have hkm : k < m := by have := Int.emod_lt_of_pos at_ hmp; omega
          have hkm2 : (k : Int) < (m : Int) := by omega
          have hmz : ¬ ((m : Int) = 0) := by omega
          have wa : IntKind.i64.wrap at_ = at_ := by rw [IntKind.wrap_i64]; omega
          have htm : at_.tmod (m : Int) = (k : Int) := by rw [Int.tmod_eq_emod_of_nonneg ha1]; exact hk
          have hkb : k < b.length := by rw [← HM.out]; exact hkm
          obtain ⟨bk, hbk⟩ : ∃ x, b[k] = x := ⟨_, rfl⟩
          have T1 : Hd True := ⟨trivial⟩
          go_enter Try.func9, Try.ntmps9
          go_wp2_with (first
            | (go_at_call 13; refine (long_calls _ _ _ l _ (HL.out.below HB.out) HE.out HN.out).mono ?_; rintro e w1 ⟨rfl, hw⟩; obtain rfl : w = w1 := hw.symm; rw [HZ.out])
            | (go_at_call 23; refine (encode_calls _ _ _ l _ (HL.out.below HB.out) HE.out HN.out HI.out).mono ?_; rw [G1.out, G2.out]; rintro e w2 ⟨v2, rfl, ho, hb⟩; obtain ⟨A2, c2, rfl, hcc2, hr2, _⟩ := own_rc ho; have HB := Hd.mk (below_then HB.out HB.out.size hb); clear ho hb hr2)
            | (clear T1; go_at_call 25; refine (decode_calls A2 _ _ [] _ (Rc.nil _ _) rfl (by decide) (by simp)).mono ?_; rintro e w3 ⟨v3, rfl, ho, hb⟩; have HB := Hd.mk (below_then HB.out HB.out.size hb); clear ho hb)
            | (go_at_call 28; refine (copy_any _ _ _ b _ (HBB.out.below HB.out) (by have := HM.out; omega) HM.out).mono ?_; rintro e w5 ⟨v5, rfl, ho, hb⟩; obtain ⟨g, cap, rfl, hg1, hg2⟩ := own_form ho (by omega); have hgw : w.heap.size ≤ g := Nat.le_trans HB.out.size hg1; have HB := Hd.mk (below_then HB.out HB.out.size hb); rw [← HM.out] at ho ⊢; have hcap : m ≤ cap := (by obtain ⟨_, _, e3, h4, _, _⟩ := own_rc ho; injection e3 with _ _ e4; omega); have HO := Hd.mk ho; obtain ⟨hc4, hf4⟩ := own_at ho (bs_at hkb); rw [hbk] at hc4; clear ho hb))
          obtain ⟨q, hq⟩ := xor_byte bk (bit % 8).toNat
          rw [hq]
          have hO5 := (HO.out.stored k (.int .u8 (q.toNat : Int))).1
          have hB5 := HB.out.setCell (p := ⟨g, k, none⟩) hgw (.int .u8 (q.toNat : Int))
          generalize w5.setCell ⟨g, k, none⟩ (.int .u8 (q.toNat : Int)) = w9 at *
          have e9 : (bs b).set k (.int .u8 (q.toNat : Int)) = bs (b.set k q) := by
            rw [show Value.int .u8 (q.toNat : Int) = u8v q from rfl, bs, bs, List.map_set]
          rw [e9] at hO5
          obtain ⟨b2, hb2⟩ : ∃ b2, b.set k q = b2 := ⟨_, rfl⟩
          have HM2 : Hd (m = b2.length) := ⟨by rw [← hb2, List.length_set]; exact HM.out⟩
          rw [hb2] at hO5
          have R5 : Hd (Rc w9 (some ⟨g, 0, none⟩) (bs b2)) := ⟨by obtain ⟨_, _, e3, _, hr3, _⟩ := own_rc hO5; injection e3 with e3; rw [e3]; exact hr3⟩
          have HB := Hd.mk hB5
          clear hO5 hB5 e9 hb2 hq HO hc4 hf4 hg2 hg1 hk htm wa hbk hkb
          by_cases hok : decOk b2
          · obtain ⟨hrD, hE1, hE2⟩ := enc_dec hok
            obtain ⟨_, hd0⟩ := dec_yes hok
            obtain ⟨D, hD⟩ : ∃ D, decL b2 = D := ⟨_, rfl⟩
            rw [hD] at hrD hE1 hE2
            obtain ⟨t, ht⟩ : ∃ t, D.length = t := ⟨_, rfl⟩
            obtain ⟨h560, hris, hall⟩ := right_is hrD
            have ht560 : t ≤ 560 := by omega
            have HDS : Hd (∀ y ∈ D, y.1.size ≤ 140737488351232) := ⟨fun y hy => by have := (right_small hrD y hy).1; omega⟩
            have HD := Hd.mk hD
            have HD0 := Hd.mk hd0
            have HE1 := Hd.mk hE1
            have HE2 := Hd.mk hE2
            have HT := Hd.mk ht
            have HRS := Hd.mk hris
            have HALL := Hd.mk hall
            clear hrD hE1 hE2 hd0 hD ht h560 hris hall hok
            refine (decode_calls (some ⟨g, 0, none⟩) m cap b2 _ R5.out HM2.out (by have := HM2.out; omega) hcap).mono ?_
            rw [HD.out, HD0.out]
            rintro e w6 ⟨v6, rfl, ho, hb⟩
            obtain ⟨A6, c6, rfl, _, hr6, _⟩ := own_rc ho
            rw [HT.out]
            have R6 := Hd.mk hr6
            have R5 := Hd.mk (R5.out.below hb)
            have HB := Hd.mk (below_then HB.out HB.out.size hb)
            clear ho hb hr6
            go_wp2_with (go_at_call 23; refine (encode_calls _ _ _ D _ R6.out HT.out.symm (by have := HT.out; omega) HDS.out).mono ?_; rw [HE1.out, HE2.out]; rintro e w7 ⟨v7, rfl, ho, hb⟩; obtain ⟨A7, c7, rfl, _, hr7, _⟩ := own_rc ho; have R7 := Hd.mk hr7; have R6 := Hd.mk (R6.out.below hb); have R5 := Hd.mk (R5.out.below hb); have HB := Hd.mk (below_then HB.out HB.out.size hb); clear ho hb hr7)
            go_loopw [19] (fun iv wr => ∃ i : Nat, iv = .int .i64 (i : Int) ∧ i ≤ t ∧ Hd (Below w7.heap.size w7 wr)) (fun iv _ => t - (intOf iv).toNat)
            case atStart => exact ⟨0, rfl, Nat.zero_le _, ⟨Below.refl _ _⟩⟩
            case round =>
              obtain ⟨i, rfl, hi, HW⟩ := hrel
              by_cases hlt : i < t
              · have hit : i < D.length := by rw [HT.out]; exact hlt
                have hil : (i : Int) < (t : Int) := by omega
                obtain ⟨b6, o6, rfl, hcell⟩ := node_cell R6.out i hit
                have hnam := (HALL.out _ (List.getElem_mem hit)).1
                have hsx := HDS.out _ (List.getElem_mem hit)
                have hprev : ∀ j, i = j + 1 → ∃ yn, gtN D[i].1 yn = true ∧ ∀ W, Below w7.heap.size w7 W → W.cell? ⟨b6, o6 + j * 2, none⟩ = some (.string yn) := fun j hj => by
                  have hjl : j < D.length := by omega
                  obtain ⟨b', o', e, hc'⟩ := node_cell R6.out j hjl
                  injection e with e
                  injection e with e1 e2
                  subst e1; subst e2
                  exact ⟨D[j].1, List.pairwise_iff_getElem.1 HRS.out j i hjl hit (by omega), fun W hW => (hc' W hW).1⟩
                obtain ⟨xn, hxn⟩ : ∃ xn, D[i].1 = xn := ⟨_, rfl⟩
                rw [hxn] at hcell hnam hsx
                have HC6 : ∀ W, Aft wr W → W.cell? ⟨b6, o6 + i * 2, none⟩ = some (.string xn) := fun W h => (hcell W (below_then HW.out HW.out.size h)).1
                have HNM := Hd.mk hnam
                have HSX := Hd.mk hsx
                clear hcell hnam hsx
                by_cases h0 : i = 0
                · have d0 : decide (0 < i) = false := by simp; omega
                  clear hprev hxn hit h0
                  go_wp2
                  refine region_win #[Value.slice A n c, Value.slice (some ⟨g, 0, none⟩) m cap, Value.int IntKind.u16 at_, Value.int IntKind.u8 bit, undef, undef, undef, undef, u8, Value.slice A2 0 c2, Value.int IntKind.i64 2, v3, Value.int IntKind.i64 (decR []), Value.int IntKind.i64 (k : Int), Value.slice (some ⟨g, 0, none⟩) m cap, Value.slice (some ⟨b6, o6, none⟩) t c6, Value.int IntKind.i64 0, Value.slice A7 b2.length c7, Value.int IntKind.i64 0, Value.int IntKind.i64 (i : Int), Value.slice A n c, Value.int IntKind.i64 z, Value.bool false, Value.bool false, Value.slice B m d, Value.int IntKind.i64 (m : Int), Value.bool false, Value.bool false, undef, Value.tuple #[Value.slice A2 0 c2, Value.int IntKind.i64 2], Value.slice A n c, Value.tuple #[Value.slice A2 0 c2, Value.int IntKind.i64 2], Value.slice A2 0 c2, Value.int IntKind.i64 2, Value.tuple #[v3, Value.int IntKind.i64 (decR [])], Value.slice A2 0 c2, Value.tuple #[v3, Value.int IntKind.i64 (decR [])], v3, Value.int IntKind.i64 (decR []), Value.int IntKind.i64 2, Value.bool false, Value.bool false, undef, undef, undef, undef, undef, undef, undef, undef, undef, undef, undef, undef, undef, undef, undef, undef, Value.bool false, Value.slice B m d, Value.int IntKind.i64 (m : Int), Value.bool true, Value.int IntKind.u16 at_, Value.int IntKind.i64 at_, Value.slice B m d, Value.int IntKind.i64 (m : Int), Value.int IntKind.i64 (k : Int), Value.slice B m d, Value.slice (some ⟨g, 0, none⟩) m cap, Value.slice (some ⟨g, 0, none⟩) m cap, Value.int IntKind.i64 (k : Int), Value.slice (some ⟨g, 0, none⟩) m cap, Value.int IntKind.i64 (k : Int), Value.pointer (some ⟨g, k, none⟩), Value.int IntKind.u8 (bk.toNat : Int), Value.int IntKind.u8 bit, Value.int IntKind.u8 (bit % 8), Value.int IntKind.u8 (2 ^ (bit % 8).toNat % 256), Value.int IntKind.u8 (q.toNat : Int), Value.pointer (some ⟨g, k, none⟩), Value.slice (some ⟨g, 0, none⟩) m cap, Value.tuple #[Value.slice (some ⟨b6, o6, none⟩) t c6, Value.int IntKind.i64 0], Value.slice (some ⟨g, 0, none⟩) m cap, Value.tuple #[Value.slice (some ⟨b6, o6, none⟩) t c6, Value.int IntKind.i64 0], Value.slice (some ⟨b6, o6, none⟩) t c6, Value.int IntKind.i64 0, Value.int IntKind.i64 0, Value.bool false, undef, undef, undef, undef, undef, undef, Value.tuple #[Value.slice A7 b2.length c7, Value.int IntKind.i64 0], Value.slice (some ⟨b6, o6, none⟩) t c6, Value.tuple #[Value.slice A7 b2.length c7, Value.int IntKind.i64 0], Value.slice A7 b2.length c7, Value.int IntKind.i64 0, Value.int IntKind.i64 (i : Int), Value.slice (some ⟨b6, o6, none⟩) t c6, Value.int IntKind.i64 (t : Int), Value.bool true, u103, u104, Value.slice (some ⟨b6, o6, none⟩) t c6, Value.int .i64 (i : Int), Value.pointer (some ⟨b6, o6 + i * 2, none⟩), Value.pointer (some ⟨b6, o6 + i * 2, none⟩), Value.string xn, Value.bool true, Value.bool false, Value.bool false, Value.int .i64 (i : Int), Value.bool false, Value.bool false, undef, undef, undef, undef, undef, undef, undef, undef, undef, undef, undef, undef, Value.bool false, Value.bool false, undef, undef, undef, undef, undef, undef, undef, undef, undef, undef]
                    105 (lbv1 (some ⟨b6, o6, none⟩) t c6 i xn (some ⟨b6, o6 + i * 2, none⟩)) (fun W => Aft wr W) [(15, Value.slice (some ⟨b6, o6, none⟩) t c6), (19, Value.int .i64 (i : Int))] (by kernel_rfl) (by kernel_rfl) (by kernel_rfl) (by kernel_rfl) (by kernel_rfl) (by kernel_rfl) (by kernel_rfl) (by kernel_rfl) (Aft.start wr) ?steps ?fin
                  case steps =>
                    refine StepsAt.cons ?_ (StepsAt.cons ?_ (StepsAt.cons ?_ (StepsAt.cons ?_ (StepsAt.cons ?_ (StepsAt.cons ?_ (StepsAt.cons ?_ (StepsAt.cons ?_ (StepsAt.cons ?_ (StepsAt.cons ?_ (StepsAt.cons ?_ (StepsAt.cons ?_ (StepsAt.cons ?_ (StepsAt.cons ?_ (StepsAt.cons ?_ (StepsAt.cons ?_ (StepsAt.cons ?_ (StepsAt.cons ?_ (StepsAt.cons ?_ (StepsAt.cons ?_ (StepsAt.cons ?_ (StepsAt.cons ?_ (StepsAt.cons ?_ (StepsAt.cons ?_ (StepsAt.cons ?_ StepsAt.nil))))))))))))))))))))))))
                    · refine StepAt.go rfl fun Q A w6 hG hlow hp => ?_
                      have e15 : A.tmps.getD 15 undef = Value.slice (some ⟨b6, o6, none⟩) t c6 := hlow (15, _) (by simp)
                      clear hlow hp
                      go_simp
                      first | rfl | exact ⟨_, rfl, hG, rfl⟩ | exact ⟨hG, rfl⟩
                    · refine StepAt.go rfl fun Q A w6 hG hlow hp => ?_
                      have e19 : A.tmps.getD 19 undef = Value.int .i64 (i : Int) := hlow (19, _) (by simp)
                      clear hlow hp
                      go_simp
                      first | rfl | exact ⟨_, rfl, hG, rfl⟩ | exact ⟨hG, rfl⟩
                    · refine StepAt.go rfl fun Q A w6 hG hlow hp => ?_
                      have e105 : A.tmps.getD 105 undef = Value.slice (some ⟨b6, o6, none⟩) t c6 := hp ⟨0, .data⟩ (by simp) rfl
                      have e106 : A.tmps.getD 106 undef = Value.int .i64 (i : Int) := hp ⟨1, .data⟩ (by simp) rfl
                      clear hlow hp
                      go_simp
                      first | rfl | exact ⟨_, rfl, hG, rfl⟩ | exact ⟨hG, rfl⟩
                    · refine StepAt.go rfl fun Q A w6 hG hlow hp => ?_
                      have e107 : A.tmps.getD 107 undef = Value.pointer (some ⟨b6, o6 + i * 2, none⟩) := hp ⟨2, .data⟩ (by simp) rfl
                      clear hlow hp
                      go_simp
                      first | rfl | exact ⟨_, rfl, hG, rfl⟩ | exact ⟨hG, rfl⟩
                    · refine StepAt.go rfl fun Q A w6 hG hlow hp => ?_
                      have e108 : A.tmps.getD 108 undef = Value.pointer (some ⟨b6, o6 + i * 2, none⟩) := hp ⟨3, .data⟩ (by simp) rfl
                      clear hlow hp
                      have hc := HC6 w6 hG
                      go_simp
                      first | rfl | exact ⟨_, rfl, hG, rfl⟩ | exact ⟨hG, rfl⟩
                    · refine StepAt.go rfl fun Q A w6 hG hlow hp => ?_
                      have e109 : A.tmps.getD 109 undef = Value.string xn := hp ⟨4, .data⟩ (by simp) rfl
                      clear hlow hp
                      go_simp
                      refine (named_b xn true _ HSX.out HNM.out).mono ?_
                      rintro e w7 ⟨rfl, hb⟩
                      first | exact ⟨_, rfl, hG.call hb, rfl⟩ | exact ⟨rfl, hG.call hb⟩ | exact ⟨rfl, hG.call hb, rfl⟩
                    · refine StepAt.go rfl fun Q A w6 hG hlow hp => ?_
                      have e110 : A.tmps.getD 110 undef = Value.bool true := hp ⟨5, .data⟩ (by simp) rfl
                      clear hlow hp
                      go_simp
                      first | rfl | exact ⟨_, rfl, hG, rfl⟩ | exact ⟨hG, rfl⟩
                    · refine StepAt.go rfl fun Q A w6 hG hlow hp => ?_
                      have e111 : A.tmps.getD 111 undef = Value.bool false := hp ⟨6, .data⟩ (by simp) rfl
                      clear hlow hp
                      go_simp
                      first | rfl | exact ⟨_, rfl, hG, rfl⟩ | exact ⟨hG, rfl⟩
                    · refine StepAt.go rfl fun Q A w6 hG hlow hp => ?_
                      have e19 : A.tmps.getD 19 undef = Value.int .i64 (i : Int) := hlow (19, _) (by simp)
                      clear hlow hp
                      go_simp
                      first | rfl | exact ⟨_, rfl, hG, rfl⟩ | exact ⟨hG, rfl⟩
                    · refine StepAt.go rfl fun Q A w6 hG hlow hp => ?_
                      have e113 : A.tmps.getD 113 undef = Value.int .i64 (i : Int) := hp ⟨8, .data⟩ (by simp) rfl
                      clear hlow hp
                      go_simp
                      first | rfl | exact ⟨_, rfl, hG, rfl⟩ | exact ⟨hG, rfl⟩
                    · refine StepAt.go rfl fun Q A w6 hG hlow hp => ?_
                      have e114 : A.tmps.getD 114 undef = Value.bool false := hp ⟨9, .data⟩ (by simp) rfl
                      clear hlow hp
                      go_simp
                      first | rfl | exact ⟨_, rfl, hG, rfl⟩ | exact ⟨hG, rfl⟩
                    · exact StepAt.past rfl rfl
                    · exact StepAt.past rfl rfl
                    · exact StepAt.past rfl rfl
                    · exact StepAt.past rfl rfl
                    · exact StepAt.past rfl rfl
                    · exact StepAt.past rfl rfl
                    · exact StepAt.past rfl rfl
                    · exact StepAt.past rfl rfl
                    · exact StepAt.past rfl rfl
                    · exact StepAt.past rfl rfl
                    · exact StepAt.past rfl rfl
                    · exact StepAt.past rfl rfl
                    · refine StepAt.go rfl fun Q A w6 hG hlow hp => ?_
                      have e115 : A.tmps.getD 115 undef = Value.bool false := hp ⟨10, .data⟩ (by simp) rfl
                      have e127 : A.tmps.getD 127 undef = undef := hp ⟨22, .data⟩ (by simp) rfl
                      clear hlow hp
                      go_simp
                      first | rfl | exact ⟨_, rfl, hG, rfl⟩ | exact ⟨hG, rfl⟩
                    · refine StepAt.go rfl fun Q A w6 hG hlow hp => ?_
                      have e112 : A.tmps.getD 112 undef = Value.bool false := hp ⟨7, .data⟩ (by simp) rfl
                      have e128 : A.tmps.getD 128 undef = Value.bool false := hp ⟨23, .data⟩ (by simp) rfl
                      clear hlow hp
                      go_simp
                      first | rfl | exact ⟨_, rfl, hG, rfl⟩ | exact ⟨hG, rfl⟩
                  case fin =>
                    intro w6 hG
                    have HW := Hd.mk (below_then HW.out HW.out.size hG)
                    clear hG
                    go_wp2
                    go_roundw
                    case rel => exact ⟨i + 1, by go_num, by omega, HW⟩
                    case measure => simp [intOf]; omega
                · obtain ⟨j, hj⟩ : ∃ j, i = j + 1 := ⟨i - 1, by omega⟩
                  obtain ⟨yn, hgt, hcy⟩ := hprev j hj
                  rw [hxn] at hgt
                  have HC7 : ∀ W, Aft wr W → W.cell? ⟨b6, o6 + j * 2, none⟩ = some (.string yn) := fun W h => hcy W (below_then HW.out HW.out.size h)
                  have d0 : decide (0 < i) = true := by simp; omega
                  have hjm : (i : Int) - 1 = (j : Int) := by omega
                  have hjn : (j : Int) < (t : Int) := by omega
                  have hwj : IntKind.i64.wrap (j : Int) = (j : Int) := by rw [IntKind.wrap_i64]; omega
                  rcases gt_ways xn yn with ⟨g0, _⟩ | ⟨g0, _, _⟩ | ⟨_, g1, g2⟩
                  · rw [hgt] at g0; cases g0
                  · rw [hgt] at g0; cases g0
                  clear hprev hxn hit hcy hgt h0 hj
                  go_wp2
                  refine region_win #[Value.slice A n c, Value.slice (some ⟨g, 0, none⟩) m cap, Value.int IntKind.u16 at_, Value.int IntKind.u8 bit, undef, undef, undef, undef, u8, Value.slice A2 0 c2, Value.int IntKind.i64 2, v3, Value.int IntKind.i64 (decR []), Value.int IntKind.i64 (k : Int), Value.slice (some ⟨g, 0, none⟩) m cap, Value.slice (some ⟨b6, o6, none⟩) t c6, Value.int IntKind.i64 0, Value.slice A7 b2.length c7, Value.int IntKind.i64 0, Value.int IntKind.i64 (i : Int), Value.slice A n c, Value.int IntKind.i64 z, Value.bool false, Value.bool false, Value.slice B m d, Value.int IntKind.i64 (m : Int), Value.bool false, Value.bool false, undef, Value.tuple #[Value.slice A2 0 c2, Value.int IntKind.i64 2], Value.slice A n c, Value.tuple #[Value.slice A2 0 c2, Value.int IntKind.i64 2], Value.slice A2 0 c2, Value.int IntKind.i64 2, Value.tuple #[v3, Value.int IntKind.i64 (decR [])], Value.slice A2 0 c2, Value.tuple #[v3, Value.int IntKind.i64 (decR [])], v3, Value.int IntKind.i64 (decR []), Value.int IntKind.i64 2, Value.bool false, Value.bool false, undef, undef, undef, undef, undef, undef, undef, undef, undef, undef, undef, undef, undef, undef, undef, undef, Value.bool false, Value.slice B m d, Value.int IntKind.i64 (m : Int), Value.bool true, Value.int IntKind.u16 at_, Value.int IntKind.i64 at_, Value.slice B m d, Value.int IntKind.i64 (m : Int), Value.int IntKind.i64 (k : Int), Value.slice B m d, Value.slice (some ⟨g, 0, none⟩) m cap, Value.slice (some ⟨g, 0, none⟩) m cap, Value.int IntKind.i64 (k : Int), Value.slice (some ⟨g, 0, none⟩) m cap, Value.int IntKind.i64 (k : Int), Value.pointer (some ⟨g, k, none⟩), Value.int IntKind.u8 (bk.toNat : Int), Value.int IntKind.u8 bit, Value.int IntKind.u8 (bit % 8), Value.int IntKind.u8 (2 ^ (bit % 8).toNat % 256), Value.int IntKind.u8 (q.toNat : Int), Value.pointer (some ⟨g, k, none⟩), Value.slice (some ⟨g, 0, none⟩) m cap, Value.tuple #[Value.slice (some ⟨b6, o6, none⟩) t c6, Value.int IntKind.i64 0], Value.slice (some ⟨g, 0, none⟩) m cap, Value.tuple #[Value.slice (some ⟨b6, o6, none⟩) t c6, Value.int IntKind.i64 0], Value.slice (some ⟨b6, o6, none⟩) t c6, Value.int IntKind.i64 0, Value.int IntKind.i64 0, Value.bool false, undef, undef, undef, undef, undef, undef, Value.tuple #[Value.slice A7 b2.length c7, Value.int IntKind.i64 0], Value.slice (some ⟨b6, o6, none⟩) t c6, Value.tuple #[Value.slice A7 b2.length c7, Value.int IntKind.i64 0], Value.slice A7 b2.length c7, Value.int IntKind.i64 0, Value.int IntKind.i64 (i : Int), Value.slice (some ⟨b6, o6, none⟩) t c6, Value.int IntKind.i64 (t : Int), Value.bool true, u103, u104, Value.slice (some ⟨b6, o6, none⟩) t c6, Value.int .i64 (i : Int), Value.pointer (some ⟨b6, o6 + i * 2, none⟩), Value.pointer (some ⟨b6, o6 + i * 2, none⟩), Value.string xn, Value.bool true, Value.bool false, Value.bool false, Value.int .i64 (i : Int), Value.bool true, Value.bool true, Value.slice (some ⟨b6, o6, none⟩) t c6, Value.int .i64 (i : Int), Value.pointer (some ⟨b6, o6 + i * 2, none⟩), Value.pointer (some ⟨b6, o6 + i * 2, none⟩), Value.string xn, Value.slice (some ⟨b6, o6, none⟩) t c6, Value.int .i64 (i : Int), Value.int .i64 (j : Int), Value.pointer (some ⟨b6, o6 + j * 2, none⟩), Value.pointer (some ⟨b6, o6 + j * 2, none⟩), Value.string yn, Value.bool false, Value.bool false, Value.bool false, undef, undef, undef, undef, undef, undef, undef, undef, undef, undef]
                    105 (lbv2 (some ⟨b6, o6, none⟩) t c6 i j xn yn (some ⟨b6, o6 + i * 2, none⟩) (some ⟨b6, o6 + j * 2, none⟩)) (fun W => Aft wr W) [(15, Value.slice (some ⟨b6, o6, none⟩) t c6), (19, Value.int .i64 (i : Int))] (by kernel_rfl) (by kernel_rfl) (by kernel_rfl) (by kernel_rfl) (by kernel_rfl) (by kernel_rfl) (by kernel_rfl) (by kernel_rfl) (Aft.start wr) ?steps ?fin
                  case steps =>
                    refine StepsAt.cons ?_ (StepsAt.cons ?_ (StepsAt.cons ?_ (StepsAt.cons ?_ (StepsAt.cons ?_ (StepsAt.cons ?_ (StepsAt.cons ?_ (StepsAt.cons ?_ (StepsAt.cons ?_ (StepsAt.cons ?_ (StepsAt.cons ?_ (StepsAt.cons ?_ (StepsAt.cons ?_ (StepsAt.cons ?_ (StepsAt.cons ?_ (StepsAt.cons ?_ (StepsAt.cons ?_ (StepsAt.cons ?_ (StepsAt.cons ?_ (StepsAt.cons ?_ (StepsAt.cons ?_ (StepsAt.cons ?_ (StepsAt.cons ?_ (StepsAt.cons ?_ (StepsAt.cons ?_ StepsAt.nil))))))))))))))))))))))))
                    · refine StepAt.go rfl fun Q A w6 hG hlow hp => ?_
                      have e15 : A.tmps.getD 15 undef = Value.slice (some ⟨b6, o6, none⟩) t c6 := hlow (15, _) (by simp)
                      clear hlow hp
                      go_simp
                      first | rfl | exact ⟨_, rfl, hG, rfl⟩ | exact ⟨hG, rfl⟩
                    · refine StepAt.go rfl fun Q A w6 hG hlow hp => ?_
                      have e19 : A.tmps.getD 19 undef = Value.int .i64 (i : Int) := hlow (19, _) (by simp)
                      clear hlow hp
                      go_simp
                      first | rfl | exact ⟨_, rfl, hG, rfl⟩ | exact ⟨hG, rfl⟩
                    · refine StepAt.go rfl fun Q A w6 hG hlow hp => ?_
                      have e105 : A.tmps.getD 105 undef = Value.slice (some ⟨b6, o6, none⟩) t c6 := hp ⟨0, .data⟩ (by simp) rfl
                      have e106 : A.tmps.getD 106 undef = Value.int .i64 (i : Int) := hp ⟨1, .data⟩ (by simp) rfl
                      clear hlow hp
                      go_simp
                      first | rfl | exact ⟨_, rfl, hG, rfl⟩ | exact ⟨hG, rfl⟩
                    · refine StepAt.go rfl fun Q A w6 hG hlow hp => ?_
                      have e107 : A.tmps.getD 107 undef = Value.pointer (some ⟨b6, o6 + i * 2, none⟩) := hp ⟨2, .data⟩ (by simp) rfl
                      clear hlow hp
                      go_simp
                      first | rfl | exact ⟨_, rfl, hG, rfl⟩ | exact ⟨hG, rfl⟩
                    · refine StepAt.go rfl fun Q A w6 hG hlow hp => ?_
                      have e108 : A.tmps.getD 108 undef = Value.pointer (some ⟨b6, o6 + i * 2, none⟩) := hp ⟨3, .data⟩ (by simp) rfl
                      clear hlow hp
                      have hc := HC6 w6 hG
                      go_simp
                      first | rfl | exact ⟨_, rfl, hG, rfl⟩ | exact ⟨hG, rfl⟩
                    · refine StepAt.go rfl fun Q A w6 hG hlow hp => ?_
                      have e109 : A.tmps.getD 109 undef = Value.string xn := hp ⟨4, .data⟩ (by simp) rfl
                      clear hlow hp
                      go_simp
                      refine (named_b xn true _ HSX.out HNM.out).mono ?_
                      rintro e w7 ⟨rfl, hb⟩
                      first | exact ⟨_, rfl, hG.call hb, rfl⟩ | exact ⟨rfl, hG.call hb⟩ | exact ⟨rfl, hG.call hb, rfl⟩
                    · refine StepAt.go rfl fun Q A w6 hG hlow hp => ?_
                      have e110 : A.tmps.getD 110 undef = Value.bool true := hp ⟨5, .data⟩ (by simp) rfl
                      clear hlow hp
                      go_simp
                      first | rfl | exact ⟨_, rfl, hG, rfl⟩ | exact ⟨hG, rfl⟩
                    · refine StepAt.go rfl fun Q A w6 hG hlow hp => ?_
                      have e111 : A.tmps.getD 111 undef = Value.bool false := hp ⟨6, .data⟩ (by simp) rfl
                      clear hlow hp
                      go_simp
                      first | rfl | exact ⟨_, rfl, hG, rfl⟩ | exact ⟨hG, rfl⟩
                    · refine StepAt.go rfl fun Q A w6 hG hlow hp => ?_
                      have e19 : A.tmps.getD 19 undef = Value.int .i64 (i : Int) := hlow (19, _) (by simp)
                      clear hlow hp
                      go_simp
                      first | rfl | exact ⟨_, rfl, hG, rfl⟩ | exact ⟨hG, rfl⟩
                    · refine StepAt.go rfl fun Q A w6 hG hlow hp => ?_
                      have e113 : A.tmps.getD 113 undef = Value.int .i64 (i : Int) := hp ⟨8, .data⟩ (by simp) rfl
                      clear hlow hp
                      go_simp
                      first | rfl | exact ⟨_, rfl, hG, rfl⟩ | exact ⟨hG, rfl⟩
                    · refine StepAt.go rfl fun Q A w6 hG hlow hp => ?_
                      have e114 : A.tmps.getD 114 undef = Value.bool true := hp ⟨9, .data⟩ (by simp) rfl
                      clear hlow hp
                      go_simp
                      first | rfl | exact ⟨_, rfl, hG, rfl⟩ | exact ⟨hG, rfl⟩
                    · refine StepAt.go rfl fun Q A w6 hG hlow hp => ?_
                      have e15 : A.tmps.getD 15 undef = Value.slice (some ⟨b6, o6, none⟩) t c6 := hlow (15, _) (by simp)
                      clear hlow hp
                      go_simp
                      first | rfl | exact ⟨_, rfl, hG, rfl⟩ | exact ⟨hG, rfl⟩
                    · refine StepAt.go rfl fun Q A w6 hG hlow hp => ?_
                      have e19 : A.tmps.getD 19 undef = Value.int .i64 (i : Int) := hlow (19, _) (by simp)
                      clear hlow hp
                      go_simp
                      first | rfl | exact ⟨_, rfl, hG, rfl⟩ | exact ⟨hG, rfl⟩
                    · refine StepAt.go rfl fun Q A w6 hG hlow hp => ?_
                      have e116 : A.tmps.getD 116 undef = Value.slice (some ⟨b6, o6, none⟩) t c6 := hp ⟨11, .data⟩ (by simp) rfl
                      have e117 : A.tmps.getD 117 undef = Value.int .i64 (i : Int) := hp ⟨12, .data⟩ (by simp) rfl
                      clear hlow hp
                      go_simp
                      first | rfl | exact ⟨_, rfl, hG, rfl⟩ | exact ⟨hG, rfl⟩
                    · refine StepAt.go rfl fun Q A w6 hG hlow hp => ?_
                      have e118 : A.tmps.getD 118 undef = Value.pointer (some ⟨b6, o6 + i * 2, none⟩) := hp ⟨13, .data⟩ (by simp) rfl
                      clear hlow hp
                      go_simp
                      first | rfl | exact ⟨_, rfl, hG, rfl⟩ | exact ⟨hG, rfl⟩
                    · refine StepAt.go rfl fun Q A w6 hG hlow hp => ?_
                      have e119 : A.tmps.getD 119 undef = Value.pointer (some ⟨b6, o6 + i * 2, none⟩) := hp ⟨14, .data⟩ (by simp) rfl
                      clear hlow hp
                      have hc := HC6 w6 hG
                      go_simp
                      first | rfl | exact ⟨_, rfl, hG, rfl⟩ | exact ⟨hG, rfl⟩
                    · refine StepAt.go rfl fun Q A w6 hG hlow hp => ?_
                      have e15 : A.tmps.getD 15 undef = Value.slice (some ⟨b6, o6, none⟩) t c6 := hlow (15, _) (by simp)
                      clear hlow hp
                      go_simp
                      first | rfl | exact ⟨_, rfl, hG, rfl⟩ | exact ⟨hG, rfl⟩
                    · refine StepAt.go rfl fun Q A w6 hG hlow hp => ?_
                      have e19 : A.tmps.getD 19 undef = Value.int .i64 (i : Int) := hlow (19, _) (by simp)
                      clear hlow hp
                      go_simp
                      first | rfl | exact ⟨_, rfl, hG, rfl⟩ | exact ⟨hG, rfl⟩
                    · refine StepAt.go rfl fun Q A w6 hG hlow hp => ?_
                      have e122 : A.tmps.getD 122 undef = Value.int .i64 (i : Int) := hp ⟨17, .data⟩ (by simp) rfl
                      clear hlow hp
                      go_simp
                      first | rfl | exact ⟨_, rfl, hG, rfl⟩ | exact ⟨hG, rfl⟩
                    · refine StepAt.go rfl fun Q A w6 hG hlow hp => ?_
                      have e121 : A.tmps.getD 121 undef = Value.slice (some ⟨b6, o6, none⟩) t c6 := hp ⟨16, .data⟩ (by simp) rfl
                      have e123 : A.tmps.getD 123 undef = Value.int .i64 (j : Int) := hp ⟨18, .data⟩ (by simp) rfl
                      clear hlow hp
                      go_simp
                      first | rfl | exact ⟨_, rfl, hG, rfl⟩ | exact ⟨hG, rfl⟩
                    · refine StepAt.go rfl fun Q A w6 hG hlow hp => ?_
                      have e124 : A.tmps.getD 124 undef = Value.pointer (some ⟨b6, o6 + j * 2, none⟩) := hp ⟨19, .data⟩ (by simp) rfl
                      clear hlow hp
                      go_simp
                      first | rfl | exact ⟨_, rfl, hG, rfl⟩ | exact ⟨hG, rfl⟩
                    · refine StepAt.go rfl fun Q A w6 hG hlow hp => ?_
                      have e125 : A.tmps.getD 125 undef = Value.pointer (some ⟨b6, o6 + j * 2, none⟩) := hp ⟨20, .data⟩ (by simp) rfl
                      clear hlow hp
                      have hc := HC7 w6 hG
                      go_simp
                      first | rfl | exact ⟨_, rfl, hG, rfl⟩ | exact ⟨hG, rfl⟩
                    · refine StepAt.go rfl fun Q A w6 hG hlow hp => ?_
                      have e120 : A.tmps.getD 120 undef = Value.string xn := hp ⟨15, .data⟩ (by simp) rfl
                      have e126 : A.tmps.getD 126 undef = Value.string yn := hp ⟨21, .data⟩ (by simp) rfl
                      clear hlow hp
                      go_simp
                      first | rfl | exact ⟨_, rfl, hG, rfl⟩ | exact ⟨hG, rfl⟩
                    · refine StepAt.go rfl fun Q A w6 hG hlow hp => ?_
                      have e115 : A.tmps.getD 115 undef = Value.bool true := hp ⟨10, .data⟩ (by simp) rfl
                      have e127 : A.tmps.getD 127 undef = Value.bool false := hp ⟨22, .data⟩ (by simp) rfl
                      clear hlow hp
                      go_simp
                      first | rfl | exact ⟨_, rfl, hG, rfl⟩ | exact ⟨hG, rfl⟩
                    · refine StepAt.go rfl fun Q A w6 hG hlow hp => ?_
                      have e112 : A.tmps.getD 112 undef = Value.bool false := hp ⟨7, .data⟩ (by simp) rfl
                      have e128 : A.tmps.getD 128 undef = Value.bool false := hp ⟨23, .data⟩ (by simp) rfl
                      clear hlow hp
                      go_simp
                      first | rfl | exact ⟨_, rfl, hG, rfl⟩ | exact ⟨hG, rfl⟩
                  case fin =>
                    intro w6 hG
                    have HW := Hd.mk (below_then HW.out HW.out.size hG)
                    clear hG
                    go_wp2
                    go_roundw
                    case rel => exact ⟨i + 1, by go_num, by omega, HW⟩
                    case measure => simp [intOf]; omega
              · obtain rfl : i = t := by omega
                go_wp2_with (first
                  | (go_at_call 27; refine (same_b _ _ _ _ _ _ b2 b2 _ (R7.out.below HW.out) (R5.out.below HW.out) rfl HM2.out rfl).mono ?_; rintro e w8 ⟨rfl, hw⟩; obtain rfl := hw.symm)
                  | (go_at_call 11; refine (known_calls _).mono ?_; rintro e w12 ⟨rfl, hb⟩; have HB := Hd.mk (below_then HB.out HB.out.size (below_then HW.out HW.out.size hb)); clear hb))
                go_ret
                exact ⟨rfl, HB.out⟩
          · obtain ⟨hd1, hd2⟩ := dec_no hok
            have HD1 := Hd.mk hd1
            have HD2 := Hd.mk hd2
            clear hok hd1 hd2
            refine (decode_calls (some ⟨g, 0, none⟩) m cap b2 _ R5.out HM2.out (by have := HM2.out; omega) hcap).mono ?_
            rw [HD1.out, HD2.out]
            rintro e w6 ⟨v6, rfl, ho, hb⟩
            obtain ⟨A6, c6, rfl, _, hr6, _⟩ := own_rc ho
            have HB := Hd.mk (below_then HB.out HB.out.size hb)
            clear ho hb hr6
            go_wp2_with (go_at_call 11; refine (known_calls _).mono ?_; rintro e w12 ⟨rfl, hb⟩; have HB := Hd.mk (below_then HB.out HB.out.size hb); clear hb)
            go_ret
            exact ⟨rfl, HB.out⟩
      · obtain ⟨g1, g2⟩ := enc_right hr
        obtain ⟨m1, m2⟩ := dec_enc hr
        have hel := enc_len hr
        have h560 := (right_is hr).1
        have hn560 : n ≤ 560 := by have := HE.out; omega
        obtain ⟨X, hX⟩ : ∃ X, encRows l = X := ⟨_, rfl⟩
        obtain ⟨xl, hxl⟩ : ∃ xl, X.length = xl := ⟨_, rfl⟩
        rw [hX] at g1 m1 m2 hel
        rw [hxl, ← HE.out] at hel
        have hxb : xl ≤ 20000 := by omega
        have nw : IntKind.i64.wrap (32 * (n : Int)) = (xl : Int) := by rw [IntKind.wrap_i64]; omega
        have nq : ((xl : Int) != 32 * (n : Int)) = false := by simp; omega
        have nq2 : (xl : Int) = 32 * (n : Int) := by omega
        have G1 := Hd.mk g1
        have G2 := Hd.mk g2
        have M1 := Hd.mk m1
        have M2 := Hd.mk m2
        have HXL := Hd.mk hxl
        clear hr g1 g2 m1 m2 hX h560 hxl hel nq2
        by_cases hm0 : m = 0
        · subst hm0
          have T1 : Hd True := ⟨trivial⟩
          go_enter Try.func9, Try.ntmps9
          go_wp2_with (first
            | (go_at_call 13; refine (long_calls _ _ _ l _ (HL.out.below HB.out) HE.out HN.out).mono ?_; rintro e w1 ⟨rfl, hw⟩; obtain rfl : w = w1 := hw.symm; rw [HZ.out])
            | (go_at_call 23; refine (encode_calls _ _ _ l _ (HL.out.below HB.out) HE.out HN.out HI.out).mono ?_; rw [G1.out, G2.out]; rintro e w2 ⟨v2, rfl, ho, hb⟩; obtain ⟨A2, c2, rfl, hcc2, hr2, _⟩ := own_rc ho; rw [HXL.out] at hcc2 ⊢; have R2 := Hd.mk hr2; have HB := Hd.mk (below_then HB.out HB.out.size hb); clear ho hb hr2)
            | (clear T1; go_at_call 25; refine (decode_calls A2 _ _ X _ R2.out HXL.out.symm (by have := HXL.out; omega) hcc2).mono ?_; rw [M1.out, M2.out]; rintro e w3 ⟨v3, rfl, ho, hb⟩; obtain ⟨A3, c3, rfl, _, hr3, _⟩ := own_rc ho; have R3 := Hd.mk hr3; have HB := Hd.mk (below_then HB.out HB.out.size hb); clear ho hb hr3)
            | (go_at_call 15; refine (ents_same' _ _ _ _ _ _ l l _ (HL.out.below HB.out) R3.out HE.out rfl (by have := HN.out; omega)).mono ?_; rintro e w4 ⟨rfl, hb⟩; rw [show decide (l = l) = true from decide_eq_true rfl]; have HB := Hd.mk (below_then HB.out HB.out.size hb); clear hb))
          have R5 := Hd.mk (HBB.out.below HB.out)
          have HM2 := HM
          by_cases hok : decOk b
          · obtain ⟨hrD, hE1, hE2⟩ := enc_dec hok
            obtain ⟨_, hd0⟩ := dec_yes hok
            obtain ⟨D, hD⟩ : ∃ D, decL b = D := ⟨_, rfl⟩
            rw [hD] at hrD hE1 hE2
            obtain ⟨t, ht⟩ : ∃ t, D.length = t := ⟨_, rfl⟩
            obtain ⟨h560, hris, hall⟩ := right_is hrD
            have ht560 : t ≤ 560 := by omega
            have HDS : Hd (∀ y ∈ D, y.1.size ≤ 140737488351232) := ⟨fun y hy => by have := (right_small hrD y hy).1; omega⟩
            have HD := Hd.mk hD
            have HD0 := Hd.mk hd0
            have HE1 := Hd.mk hE1
            have HE2 := Hd.mk hE2
            have HT := Hd.mk ht
            have HRS := Hd.mk hris
            have HALL := Hd.mk hall
            clear hrD hE1 hE2 hd0 hD ht h560 hris hall hok
            refine (decode_calls B 0 d b _ R5.out HM2.out (by have := HM2.out; omega) (Nat.zero_le _)).mono ?_
            rw [HD.out, HD0.out]
            rintro e w6 ⟨v6, rfl, ho, hb⟩
            obtain ⟨A6, c6, rfl, _, hr6, _⟩ := own_rc ho
            rw [HT.out]
            have R6 := Hd.mk hr6
            have R5 := Hd.mk (R5.out.below hb)
            have HB := Hd.mk (below_then HB.out HB.out.size hb)
            clear ho hb hr6
            go_wp2_with (go_at_call 23; refine (encode_calls _ _ _ D _ R6.out HT.out.symm (by have := HT.out; omega) HDS.out).mono ?_; rw [HE1.out, HE2.out]; rintro e w7 ⟨v7, rfl, ho, hb⟩; obtain ⟨A7, c7, rfl, _, hr7, _⟩ := own_rc ho; have R7 := Hd.mk hr7; have R6 := Hd.mk (R6.out.below hb); have R5 := Hd.mk (R5.out.below hb); have HB := Hd.mk (below_then HB.out HB.out.size hb); clear ho hb hr7)
            go_loopw [19] (fun iv wr => ∃ i : Nat, iv = .int .i64 (i : Int) ∧ i ≤ t ∧ Hd (Below w7.heap.size w7 wr)) (fun iv _ => t - (intOf iv).toNat)
            case atStart => exact ⟨0, rfl, Nat.zero_le _, ⟨Below.refl _ _⟩⟩
            case round =>
              obtain ⟨i, rfl, hi, HW⟩ := hrel
              by_cases hlt : i < t
              · have hit : i < D.length := by rw [HT.out]; exact hlt
                have hil : (i : Int) < (t : Int) := by omega
                obtain ⟨b6, o6, rfl, hcell⟩ := node_cell R6.out i hit
                have hnam := (HALL.out _ (List.getElem_mem hit)).1
                have hsx := HDS.out _ (List.getElem_mem hit)
                have hprev : ∀ j, i = j + 1 → ∃ yn, gtN D[i].1 yn = true ∧ ∀ W, Below w7.heap.size w7 W → W.cell? ⟨b6, o6 + j * 2, none⟩ = some (.string yn) := fun j hj => by
                  have hjl : j < D.length := by omega
                  obtain ⟨b', o', e, hc'⟩ := node_cell R6.out j hjl
                  injection e with e
                  injection e with e1 e2
                  subst e1; subst e2
                  exact ⟨D[j].1, List.pairwise_iff_getElem.1 HRS.out j i hjl hit (by omega), fun W hW => (hc' W hW).1⟩
                obtain ⟨xn, hxn⟩ : ∃ xn, D[i].1 = xn := ⟨_, rfl⟩
                rw [hxn] at hcell hnam hsx
                have HC6 : ∀ W, Aft wr W → W.cell? ⟨b6, o6 + i * 2, none⟩ = some (.string xn) := fun W h => (hcell W (below_then HW.out HW.out.size h)).1
                have HNM := Hd.mk hnam
                have HSX := Hd.mk hsx
                clear hcell hnam hsx
                by_cases h0 : i = 0
                · have d0 : decide (0 < i) = false := by simp; omega
                  clear hprev hxn hit h0
                  go_wp2
                  refine region_win #[Value.slice A n c, Value.slice B 0 d, Value.int IntKind.u16 at_, Value.int IntKind.u8 bit, undef, undef, undef, undef, u8, Value.slice A2 xl c2, Value.int IntKind.i64 0, Value.slice A3 l.length c3, Value.int IntKind.i64 0, undef, undef, Value.slice (some ⟨b6, o6, none⟩) t c6, Value.int IntKind.i64 0, Value.slice A7 b.length c7, Value.int IntKind.i64 0, Value.int IntKind.i64 (i : Int), Value.slice A n c, Value.int IntKind.i64 z, Value.bool false, Value.bool false, Value.slice B 0 d, Value.int IntKind.i64 0, Value.bool false, Value.bool false, undef, Value.tuple #[Value.slice A2 xl c2, Value.int IntKind.i64 0], Value.slice A n c, Value.tuple #[Value.slice A2 xl c2, Value.int IntKind.i64 0], Value.slice A2 xl c2, Value.int IntKind.i64 0, Value.tuple #[Value.slice A3 l.length c3, Value.int IntKind.i64 0], Value.slice A2 xl c2, Value.tuple #[Value.slice A3 l.length c3, Value.int IntKind.i64 0], Value.slice A3 l.length c3, Value.int IntKind.i64 0, Value.int IntKind.i64 0, Value.bool true, Value.bool true, Value.int IntKind.i64 0, Value.bool false, Value.bool false, Value.slice A n c, Value.slice A3 l.length c3, Value.bool true, Value.bool false, Value.bool false, Value.bool false, Value.slice A2 xl c2, Value.int IntKind.i64 (xl : Int), Value.slice A n c, Value.int IntKind.i64 (n : Int), Value.int IntKind.i64 (xl : Int), Value.bool false, Value.bool false, Value.bool false, Value.slice B 0 d, Value.int IntKind.i64 0, Value.bool false, undef, undef, undef, undef, undef, undef, undef, undef, undef, undef, undef, undef, undef, undef, undef, undef, undef, undef, undef, Value.tuple #[Value.slice (some ⟨b6, o6, none⟩) t c6, Value.int IntKind.i64 0], Value.slice B 0 d, Value.tuple #[Value.slice (some ⟨b6, o6, none⟩) t c6, Value.int IntKind.i64 0], Value.slice (some ⟨b6, o6, none⟩) t c6, Value.int IntKind.i64 0, Value.int IntKind.i64 0, Value.bool false, undef, undef, undef, undef, undef, undef, Value.tuple #[Value.slice A7 b.length c7, Value.int IntKind.i64 0], Value.slice (some ⟨b6, o6, none⟩) t c6, Value.tuple #[Value.slice A7 b.length c7, Value.int IntKind.i64 0], Value.slice A7 b.length c7, Value.int IntKind.i64 0, Value.int IntKind.i64 (i : Int), Value.slice (some ⟨b6, o6, none⟩) t c6, Value.int IntKind.i64 (t : Int), Value.bool true, u103, u104, Value.slice (some ⟨b6, o6, none⟩) t c6, Value.int .i64 (i : Int), Value.pointer (some ⟨b6, o6 + i * 2, none⟩), Value.pointer (some ⟨b6, o6 + i * 2, none⟩), Value.string xn, Value.bool true, Value.bool false, Value.bool false, Value.int .i64 (i : Int), Value.bool false, Value.bool false, undef, undef, undef, undef, undef, undef, undef, undef, undef, undef, undef, undef, Value.bool false, Value.bool false, undef, undef, undef, undef, undef, undef, undef, undef, undef, undef]
                    105 (lbv1 (some ⟨b6, o6, none⟩) t c6 i xn (some ⟨b6, o6 + i * 2, none⟩)) (fun W => Aft wr W) [(15, Value.slice (some ⟨b6, o6, none⟩) t c6), (19, Value.int .i64 (i : Int))] (by kernel_rfl) (by kernel_rfl) (by kernel_rfl) (by kernel_rfl) (by kernel_rfl) (by kernel_rfl) (by kernel_rfl) (by kernel_rfl) (Aft.start wr) ?steps ?fin
                  case steps =>
                    refine StepsAt.cons ?_ (StepsAt.cons ?_ (StepsAt.cons ?_ (StepsAt.cons ?_ (StepsAt.cons ?_ (StepsAt.cons ?_ (StepsAt.cons ?_ (StepsAt.cons ?_ (StepsAt.cons ?_ (StepsAt.cons ?_ (StepsAt.cons ?_ (StepsAt.cons ?_ (StepsAt.cons ?_ (StepsAt.cons ?_ (StepsAt.cons ?_ (StepsAt.cons ?_ (StepsAt.cons ?_ (StepsAt.cons ?_ (StepsAt.cons ?_ (StepsAt.cons ?_ (StepsAt.cons ?_ (StepsAt.cons ?_ (StepsAt.cons ?_ (StepsAt.cons ?_ (StepsAt.cons ?_ StepsAt.nil))))))))))))))))))))))))
                    · refine StepAt.go rfl fun Q A w6 hG hlow hp => ?_
                      have e15 : A.tmps.getD 15 undef = Value.slice (some ⟨b6, o6, none⟩) t c6 := hlow (15, _) (by simp)
                      clear hlow hp
                      go_simp
                      first | rfl | exact ⟨_, rfl, hG, rfl⟩ | exact ⟨hG, rfl⟩
                    · refine StepAt.go rfl fun Q A w6 hG hlow hp => ?_
                      have e19 : A.tmps.getD 19 undef = Value.int .i64 (i : Int) := hlow (19, _) (by simp)
                      clear hlow hp
                      go_simp
                      first | rfl | exact ⟨_, rfl, hG, rfl⟩ | exact ⟨hG, rfl⟩
                    · refine StepAt.go rfl fun Q A w6 hG hlow hp => ?_
                      have e105 : A.tmps.getD 105 undef = Value.slice (some ⟨b6, o6, none⟩) t c6 := hp ⟨0, .data⟩ (by simp) rfl
                      have e106 : A.tmps.getD 106 undef = Value.int .i64 (i : Int) := hp ⟨1, .data⟩ (by simp) rfl
                      clear hlow hp
                      go_simp
                      first | rfl | exact ⟨_, rfl, hG, rfl⟩ | exact ⟨hG, rfl⟩
                    · refine StepAt.go rfl fun Q A w6 hG hlow hp => ?_
                      have e107 : A.tmps.getD 107 undef = Value.pointer (some ⟨b6, o6 + i * 2, none⟩) := hp ⟨2, .data⟩ (by simp) rfl
                      clear hlow hp
                      go_simp
                      first | rfl | exact ⟨_, rfl, hG, rfl⟩ | exact ⟨hG, rfl⟩
                    · refine StepAt.go rfl fun Q A w6 hG hlow hp => ?_
                      have e108 : A.tmps.getD 108 undef = Value.pointer (some ⟨b6, o6 + i * 2, none⟩) := hp ⟨3, .data⟩ (by simp) rfl
                      clear hlow hp
                      have hc := HC6 w6 hG
                      go_simp
                      first | rfl | exact ⟨_, rfl, hG, rfl⟩ | exact ⟨hG, rfl⟩
                    · refine StepAt.go rfl fun Q A w6 hG hlow hp => ?_
                      have e109 : A.tmps.getD 109 undef = Value.string xn := hp ⟨4, .data⟩ (by simp) rfl
                      clear hlow hp
                      go_simp
                      refine (named_b xn true _ HSX.out HNM.out).mono ?_
                      rintro e w7 ⟨rfl, hb⟩
                      first | exact ⟨_, rfl, hG.call hb, rfl⟩ | exact ⟨rfl, hG.call hb⟩ | exact ⟨rfl, hG.call hb, rfl⟩
                    · refine StepAt.go rfl fun Q A w6 hG hlow hp => ?_
                      have e110 : A.tmps.getD 110 undef = Value.bool true := hp ⟨5, .data⟩ (by simp) rfl
                      clear hlow hp
                      go_simp
                      first | rfl | exact ⟨_, rfl, hG, rfl⟩ | exact ⟨hG, rfl⟩
                    · refine StepAt.go rfl fun Q A w6 hG hlow hp => ?_
                      have e111 : A.tmps.getD 111 undef = Value.bool false := hp ⟨6, .data⟩ (by simp) rfl
                      clear hlow hp
                      go_simp
                      first | rfl | exact ⟨_, rfl, hG, rfl⟩ | exact ⟨hG, rfl⟩
                    · refine StepAt.go rfl fun Q A w6 hG hlow hp => ?_
                      have e19 : A.tmps.getD 19 undef = Value.int .i64 (i : Int) := hlow (19, _) (by simp)
                      clear hlow hp
                      go_simp
                      first | rfl | exact ⟨_, rfl, hG, rfl⟩ | exact ⟨hG, rfl⟩
                    · refine StepAt.go rfl fun Q A w6 hG hlow hp => ?_
                      have e113 : A.tmps.getD 113 undef = Value.int .i64 (i : Int) := hp ⟨8, .data⟩ (by simp) rfl
                      clear hlow hp
                      go_simp
                      first | rfl | exact ⟨_, rfl, hG, rfl⟩ | exact ⟨hG, rfl⟩
                    · refine StepAt.go rfl fun Q A w6 hG hlow hp => ?_
                      have e114 : A.tmps.getD 114 undef = Value.bool false := hp ⟨9, .data⟩ (by simp) rfl
                      clear hlow hp
                      go_simp
                      first | rfl | exact ⟨_, rfl, hG, rfl⟩ | exact ⟨hG, rfl⟩
                    · exact StepAt.past rfl rfl
                    · exact StepAt.past rfl rfl
                    · exact StepAt.past rfl rfl
                    · exact StepAt.past rfl rfl
                    · exact StepAt.past rfl rfl
                    · exact StepAt.past rfl rfl
                    · exact StepAt.past rfl rfl
                    · exact StepAt.past rfl rfl
                    · exact StepAt.past rfl rfl
                    · exact StepAt.past rfl rfl
                    · exact StepAt.past rfl rfl
                    · exact StepAt.past rfl rfl
                    · refine StepAt.go rfl fun Q A w6 hG hlow hp => ?_
                      have e115 : A.tmps.getD 115 undef = Value.bool false := hp ⟨10, .data⟩ (by simp) rfl
                      have e127 : A.tmps.getD 127 undef = undef := hp ⟨22, .data⟩ (by simp) rfl
                      clear hlow hp
                      go_simp
                      first | rfl | exact ⟨_, rfl, hG, rfl⟩ | exact ⟨hG, rfl⟩
                    · refine StepAt.go rfl fun Q A w6 hG hlow hp => ?_
                      have e112 : A.tmps.getD 112 undef = Value.bool false := hp ⟨7, .data⟩ (by simp) rfl
                      have e128 : A.tmps.getD 128 undef = Value.bool false := hp ⟨23, .data⟩ (by simp) rfl
                      clear hlow hp
                      go_simp
                      first | rfl | exact ⟨_, rfl, hG, rfl⟩ | exact ⟨hG, rfl⟩
                  case fin =>
                    intro w6 hG
                    have HW := Hd.mk (below_then HW.out HW.out.size hG)
                    clear hG
                    go_wp2
                    go_roundw
                    case rel => exact ⟨i + 1, by go_num, by omega, HW⟩
                    case measure => simp [intOf]; omega
                · obtain ⟨j, hj⟩ : ∃ j, i = j + 1 := ⟨i - 1, by omega⟩
                  obtain ⟨yn, hgt, hcy⟩ := hprev j hj
                  rw [hxn] at hgt
                  have HC7 : ∀ W, Aft wr W → W.cell? ⟨b6, o6 + j * 2, none⟩ = some (.string yn) := fun W h => hcy W (below_then HW.out HW.out.size h)
                  have d0 : decide (0 < i) = true := by simp; omega
                  have hjm : (i : Int) - 1 = (j : Int) := by omega
                  have hjn : (j : Int) < (t : Int) := by omega
                  have hwj : IntKind.i64.wrap (j : Int) = (j : Int) := by rw [IntKind.wrap_i64]; omega
                  rcases gt_ways xn yn with ⟨g0, _⟩ | ⟨g0, _, _⟩ | ⟨_, g1, g2⟩
                  · rw [hgt] at g0; cases g0
                  · rw [hgt] at g0; cases g0
                  clear hprev hxn hit hcy hgt h0 hj
                  go_wp2
                  refine region_win #[Value.slice A n c, Value.slice B 0 d, Value.int IntKind.u16 at_, Value.int IntKind.u8 bit, undef, undef, undef, undef, u8, Value.slice A2 xl c2, Value.int IntKind.i64 0, Value.slice A3 l.length c3, Value.int IntKind.i64 0, undef, undef, Value.slice (some ⟨b6, o6, none⟩) t c6, Value.int IntKind.i64 0, Value.slice A7 b.length c7, Value.int IntKind.i64 0, Value.int IntKind.i64 (i : Int), Value.slice A n c, Value.int IntKind.i64 z, Value.bool false, Value.bool false, Value.slice B 0 d, Value.int IntKind.i64 0, Value.bool false, Value.bool false, undef, Value.tuple #[Value.slice A2 xl c2, Value.int IntKind.i64 0], Value.slice A n c, Value.tuple #[Value.slice A2 xl c2, Value.int IntKind.i64 0], Value.slice A2 xl c2, Value.int IntKind.i64 0, Value.tuple #[Value.slice A3 l.length c3, Value.int IntKind.i64 0], Value.slice A2 xl c2, Value.tuple #[Value.slice A3 l.length c3, Value.int IntKind.i64 0], Value.slice A3 l.length c3, Value.int IntKind.i64 0, Value.int IntKind.i64 0, Value.bool true, Value.bool true, Value.int IntKind.i64 0, Value.bool false, Value.bool false, Value.slice A n c, Value.slice A3 l.length c3, Value.bool true, Value.bool false, Value.bool false, Value.bool false, Value.slice A2 xl c2, Value.int IntKind.i64 (xl : Int), Value.slice A n c, Value.int IntKind.i64 (n : Int), Value.int IntKind.i64 (xl : Int), Value.bool false, Value.bool false, Value.bool false, Value.slice B 0 d, Value.int IntKind.i64 0, Value.bool false, undef, undef, undef, undef, undef, undef, undef, undef, undef, undef, undef, undef, undef, undef, undef, undef, undef, undef, undef, Value.tuple #[Value.slice (some ⟨b6, o6, none⟩) t c6, Value.int IntKind.i64 0], Value.slice B 0 d, Value.tuple #[Value.slice (some ⟨b6, o6, none⟩) t c6, Value.int IntKind.i64 0], Value.slice (some ⟨b6, o6, none⟩) t c6, Value.int IntKind.i64 0, Value.int IntKind.i64 0, Value.bool false, undef, undef, undef, undef, undef, undef, Value.tuple #[Value.slice A7 b.length c7, Value.int IntKind.i64 0], Value.slice (some ⟨b6, o6, none⟩) t c6, Value.tuple #[Value.slice A7 b.length c7, Value.int IntKind.i64 0], Value.slice A7 b.length c7, Value.int IntKind.i64 0, Value.int IntKind.i64 (i : Int), Value.slice (some ⟨b6, o6, none⟩) t c6, Value.int IntKind.i64 (t : Int), Value.bool true, u103, u104, Value.slice (some ⟨b6, o6, none⟩) t c6, Value.int .i64 (i : Int), Value.pointer (some ⟨b6, o6 + i * 2, none⟩), Value.pointer (some ⟨b6, o6 + i * 2, none⟩), Value.string xn, Value.bool true, Value.bool false, Value.bool false, Value.int .i64 (i : Int), Value.bool true, Value.bool true, Value.slice (some ⟨b6, o6, none⟩) t c6, Value.int .i64 (i : Int), Value.pointer (some ⟨b6, o6 + i * 2, none⟩), Value.pointer (some ⟨b6, o6 + i * 2, none⟩), Value.string xn, Value.slice (some ⟨b6, o6, none⟩) t c6, Value.int .i64 (i : Int), Value.int .i64 (j : Int), Value.pointer (some ⟨b6, o6 + j * 2, none⟩), Value.pointer (some ⟨b6, o6 + j * 2, none⟩), Value.string yn, Value.bool false, Value.bool false, Value.bool false, undef, undef, undef, undef, undef, undef, undef, undef, undef, undef]
                    105 (lbv2 (some ⟨b6, o6, none⟩) t c6 i j xn yn (some ⟨b6, o6 + i * 2, none⟩) (some ⟨b6, o6 + j * 2, none⟩)) (fun W => Aft wr W) [(15, Value.slice (some ⟨b6, o6, none⟩) t c6), (19, Value.int .i64 (i : Int))] (by kernel_rfl) (by kernel_rfl) (by kernel_rfl) (by kernel_rfl) (by kernel_rfl) (by kernel_rfl) (by kernel_rfl) (by kernel_rfl) (Aft.start wr) ?steps ?fin
                  case steps =>
                    refine StepsAt.cons ?_ (StepsAt.cons ?_ (StepsAt.cons ?_ (StepsAt.cons ?_ (StepsAt.cons ?_ (StepsAt.cons ?_ (StepsAt.cons ?_ (StepsAt.cons ?_ (StepsAt.cons ?_ (StepsAt.cons ?_ (StepsAt.cons ?_ (StepsAt.cons ?_ (StepsAt.cons ?_ (StepsAt.cons ?_ (StepsAt.cons ?_ (StepsAt.cons ?_ (StepsAt.cons ?_ (StepsAt.cons ?_ (StepsAt.cons ?_ (StepsAt.cons ?_ (StepsAt.cons ?_ (StepsAt.cons ?_ (StepsAt.cons ?_ (StepsAt.cons ?_ (StepsAt.cons ?_ StepsAt.nil))))))))))))))))))))))))
                    · refine StepAt.go rfl fun Q A w6 hG hlow hp => ?_
                      have e15 : A.tmps.getD 15 undef = Value.slice (some ⟨b6, o6, none⟩) t c6 := hlow (15, _) (by simp)
                      clear hlow hp
                      go_simp
                      first | rfl | exact ⟨_, rfl, hG, rfl⟩ | exact ⟨hG, rfl⟩
                    · refine StepAt.go rfl fun Q A w6 hG hlow hp => ?_
                      have e19 : A.tmps.getD 19 undef = Value.int .i64 (i : Int) := hlow (19, _) (by simp)
                      clear hlow hp
                      go_simp
                      first | rfl | exact ⟨_, rfl, hG, rfl⟩ | exact ⟨hG, rfl⟩
                    · refine StepAt.go rfl fun Q A w6 hG hlow hp => ?_
                      have e105 : A.tmps.getD 105 undef = Value.slice (some ⟨b6, o6, none⟩) t c6 := hp ⟨0, .data⟩ (by simp) rfl
                      have e106 : A.tmps.getD 106 undef = Value.int .i64 (i : Int) := hp ⟨1, .data⟩ (by simp) rfl
                      clear hlow hp
                      go_simp
                      first | rfl | exact ⟨_, rfl, hG, rfl⟩ | exact ⟨hG, rfl⟩
                    · refine StepAt.go rfl fun Q A w6 hG hlow hp => ?_
                      have e107 : A.tmps.getD 107 undef = Value.pointer (some ⟨b6, o6 + i * 2, none⟩) := hp ⟨2, .data⟩ (by simp) rfl
                      clear hlow hp
                      go_simp
                      first | rfl | exact ⟨_, rfl, hG, rfl⟩ | exact ⟨hG, rfl⟩
                    · refine StepAt.go rfl fun Q A w6 hG hlow hp => ?_
                      have e108 : A.tmps.getD 108 undef = Value.pointer (some ⟨b6, o6 + i * 2, none⟩) := hp ⟨3, .data⟩ (by simp) rfl
                      clear hlow hp
                      have hc := HC6 w6 hG
                      go_simp
                      first | rfl | exact ⟨_, rfl, hG, rfl⟩ | exact ⟨hG, rfl⟩
                    · refine StepAt.go rfl fun Q A w6 hG hlow hp => ?_
                      have e109 : A.tmps.getD 109 undef = Value.string xn := hp ⟨4, .data⟩ (by simp) rfl
                      clear hlow hp
                      go_simp
                      refine (named_b xn true _ HSX.out HNM.out).mono ?_
                      rintro e w7 ⟨rfl, hb⟩
                      first | exact ⟨_, rfl, hG.call hb, rfl⟩ | exact ⟨rfl, hG.call hb⟩ | exact ⟨rfl, hG.call hb, rfl⟩
                    · refine StepAt.go rfl fun Q A w6 hG hlow hp => ?_
                      have e110 : A.tmps.getD 110 undef = Value.bool true := hp ⟨5, .data⟩ (by simp) rfl
                      clear hlow hp
                      go_simp
                      first | rfl | exact ⟨_, rfl, hG, rfl⟩ | exact ⟨hG, rfl⟩
                    · refine StepAt.go rfl fun Q A w6 hG hlow hp => ?_
                      have e111 : A.tmps.getD 111 undef = Value.bool false := hp ⟨6, .data⟩ (by simp) rfl
                      clear hlow hp
                      go_simp
                      first | rfl | exact ⟨_, rfl, hG, rfl⟩ | exact ⟨hG, rfl⟩
                    · refine StepAt.go rfl fun Q A w6 hG hlow hp => ?_
                      have e19 : A.tmps.getD 19 undef = Value.int .i64 (i : Int) := hlow (19, _) (by simp)
                      clear hlow hp
                      go_simp
                      first | rfl | exact ⟨_, rfl, hG, rfl⟩ | exact ⟨hG, rfl⟩
                    · refine StepAt.go rfl fun Q A w6 hG hlow hp => ?_
                      have e113 : A.tmps.getD 113 undef = Value.int .i64 (i : Int) := hp ⟨8, .data⟩ (by simp) rfl
                      clear hlow hp
                      go_simp
                      first | rfl | exact ⟨_, rfl, hG, rfl⟩ | exact ⟨hG, rfl⟩
                    · refine StepAt.go rfl fun Q A w6 hG hlow hp => ?_
                      have e114 : A.tmps.getD 114 undef = Value.bool true := hp ⟨9, .data⟩ (by simp) rfl
                      clear hlow hp
                      go_simp
                      first | rfl | exact ⟨_, rfl, hG, rfl⟩ | exact ⟨hG, rfl⟩
                    · refine StepAt.go rfl fun Q A w6 hG hlow hp => ?_
                      have e15 : A.tmps.getD 15 undef = Value.slice (some ⟨b6, o6, none⟩) t c6 := hlow (15, _) (by simp)
                      clear hlow hp
                      go_simp
                      first | rfl | exact ⟨_, rfl, hG, rfl⟩ | exact ⟨hG, rfl⟩
                    · refine StepAt.go rfl fun Q A w6 hG hlow hp => ?_
                      have e19 : A.tmps.getD 19 undef = Value.int .i64 (i : Int) := hlow (19, _) (by simp)
                      clear hlow hp
                      go_simp
                      first | rfl | exact ⟨_, rfl, hG, rfl⟩ | exact ⟨hG, rfl⟩
                    · refine StepAt.go rfl fun Q A w6 hG hlow hp => ?_
                      have e116 : A.tmps.getD 116 undef = Value.slice (some ⟨b6, o6, none⟩) t c6 := hp ⟨11, .data⟩ (by simp) rfl
                      have e117 : A.tmps.getD 117 undef = Value.int .i64 (i : Int) := hp ⟨12, .data⟩ (by simp) rfl
                      clear hlow hp
                      go_simp
                      first | rfl | exact ⟨_, rfl, hG, rfl⟩ | exact ⟨hG, rfl⟩
                    · refine StepAt.go rfl fun Q A w6 hG hlow hp => ?_
                      have e118 : A.tmps.getD 118 undef = Value.pointer (some ⟨b6, o6 + i * 2, none⟩) := hp ⟨13, .data⟩ (by simp) rfl
                      clear hlow hp
                      go_simp
                      first | rfl | exact ⟨_, rfl, hG, rfl⟩ | exact ⟨hG, rfl⟩
                    · refine StepAt.go rfl fun Q A w6 hG hlow hp => ?_
                      have e119 : A.tmps.getD 119 undef = Value.pointer (some ⟨b6, o6 + i * 2, none⟩) := hp ⟨14, .data⟩ (by simp) rfl
                      clear hlow hp
                      have hc := HC6 w6 hG
                      go_simp
                      first | rfl | exact ⟨_, rfl, hG, rfl⟩ | exact ⟨hG, rfl⟩
                    · refine StepAt.go rfl fun Q A w6 hG hlow hp => ?_
                      have e15 : A.tmps.getD 15 undef = Value.slice (some ⟨b6, o6, none⟩) t c6 := hlow (15, _) (by simp)
                      clear hlow hp
                      go_simp
                      first | rfl | exact ⟨_, rfl, hG, rfl⟩ | exact ⟨hG, rfl⟩
                    · refine StepAt.go rfl fun Q A w6 hG hlow hp => ?_
                      have e19 : A.tmps.getD 19 undef = Value.int .i64 (i : Int) := hlow (19, _) (by simp)
                      clear hlow hp
                      go_simp
                      first | rfl | exact ⟨_, rfl, hG, rfl⟩ | exact ⟨hG, rfl⟩
                    · refine StepAt.go rfl fun Q A w6 hG hlow hp => ?_
                      have e122 : A.tmps.getD 122 undef = Value.int .i64 (i : Int) := hp ⟨17, .data⟩ (by simp) rfl
                      clear hlow hp
                      go_simp
                      first | rfl | exact ⟨_, rfl, hG, rfl⟩ | exact ⟨hG, rfl⟩
                    · refine StepAt.go rfl fun Q A w6 hG hlow hp => ?_
                      have e121 : A.tmps.getD 121 undef = Value.slice (some ⟨b6, o6, none⟩) t c6 := hp ⟨16, .data⟩ (by simp) rfl
                      have e123 : A.tmps.getD 123 undef = Value.int .i64 (j : Int) := hp ⟨18, .data⟩ (by simp) rfl
                      clear hlow hp
                      go_simp
                      first | rfl | exact ⟨_, rfl, hG, rfl⟩ | exact ⟨hG, rfl⟩
                    · refine StepAt.go rfl fun Q A w6 hG hlow hp => ?_
                      have e124 : A.tmps.getD 124 undef = Value.pointer (some ⟨b6, o6 + j * 2, none⟩) := hp ⟨19, .data⟩ (by simp) rfl
                      clear hlow hp
                      go_simp
                      first | rfl | exact ⟨_, rfl, hG, rfl⟩ | exact ⟨hG, rfl⟩
                    · refine StepAt.go rfl fun Q A w6 hG hlow hp => ?_
                      have e125 : A.tmps.getD 125 undef = Value.pointer (some ⟨b6, o6 + j * 2, none⟩) := hp ⟨20, .data⟩ (by simp) rfl
                      clear hlow hp
                      have hc := HC7 w6 hG
                      go_simp
                      first | rfl | exact ⟨_, rfl, hG, rfl⟩ | exact ⟨hG, rfl⟩
                    · refine StepAt.go rfl fun Q A w6 hG hlow hp => ?_
                      have e120 : A.tmps.getD 120 undef = Value.string xn := hp ⟨15, .data⟩ (by simp) rfl
                      have e126 : A.tmps.getD 126 undef = Value.string yn := hp ⟨21, .data⟩ (by simp) rfl
                      clear hlow hp
                      go_simp
                      first | rfl | exact ⟨_, rfl, hG, rfl⟩ | exact ⟨hG, rfl⟩
                    · refine StepAt.go rfl fun Q A w6 hG hlow hp => ?_
                      have e115 : A.tmps.getD 115 undef = Value.bool true := hp ⟨10, .data⟩ (by simp) rfl
                      have e127 : A.tmps.getD 127 undef = Value.bool false := hp ⟨22, .data⟩ (by simp) rfl
                      clear hlow hp
                      go_simp
                      first | rfl | exact ⟨_, rfl, hG, rfl⟩ | exact ⟨hG, rfl⟩
                    · refine StepAt.go rfl fun Q A w6 hG hlow hp => ?_
                      have e112 : A.tmps.getD 112 undef = Value.bool false := hp ⟨7, .data⟩ (by simp) rfl
                      have e128 : A.tmps.getD 128 undef = Value.bool false := hp ⟨23, .data⟩ (by simp) rfl
                      clear hlow hp
                      go_simp
                      first | rfl | exact ⟨_, rfl, hG, rfl⟩ | exact ⟨hG, rfl⟩
                  case fin =>
                    intro w6 hG
                    have HW := Hd.mk (below_then HW.out HW.out.size hG)
                    clear hG
                    go_wp2
                    go_roundw
                    case rel => exact ⟨i + 1, by go_num, by omega, HW⟩
                    case measure => simp [intOf]; omega
              · obtain rfl : i = t := by omega
                go_wp2_with (first
                  | (go_at_call 27; refine (same_b _ _ _ _ _ _ b b _ (R7.out.below HW.out) (R5.out.below HW.out) rfl HM2.out rfl).mono ?_; rintro e w8 ⟨rfl, hw⟩; obtain rfl := hw.symm)
                  | (go_at_call 11; refine (known_calls _).mono ?_; rintro e w12 ⟨rfl, hb⟩; have HB := Hd.mk (below_then HB.out HB.out.size (below_then HW.out HW.out.size hb)); clear hb))
                go_ret
                exact ⟨rfl, HB.out⟩
          · obtain ⟨hd1, hd2⟩ := dec_no hok
            have HD1 := Hd.mk hd1
            have HD2 := Hd.mk hd2
            clear hok hd1 hd2
            refine (decode_calls B 0 d b _ R5.out HM2.out (by have := HM2.out; omega) (Nat.zero_le _)).mono ?_
            rw [HD1.out, HD2.out]
            rintro e w6 ⟨v6, rfl, ho, hb⟩
            obtain ⟨A6, c6, rfl, _, hr6, _⟩ := own_rc ho
            have HB := Hd.mk (below_then HB.out HB.out.size hb)
            clear ho hb hr6
            go_wp2_with (go_at_call 11; refine (known_calls _).mono ?_; rintro e w12 ⟨rfl, hb⟩; have HB := Hd.mk (below_then HB.out HB.out.size hb); clear hb)
            go_ret
            exact ⟨rfl, HB.out⟩
        · have hmp : (0 : Int) < (m : Int) := by omega
          obtain ⟨k, hk⟩ : ∃ k : Nat, at_ % (m : Int) = (k : Int) := ⟨(at_ % (m : Int)).toNat, by have := Int.emod_nonneg at_ (show (m : Int) ≠ 0 by omega); omega⟩
          have hkm : k < m := by have := Int.emod_lt_of_pos at_ hmp; omega
          have hkm2 : (k : Int) < (m : Int) := by omega
          have hmz : ¬ ((m : Int) = 0) := by omega
          have wa : IntKind.i64.wrap at_ = at_ := by rw [IntKind.wrap_i64]; omega
          have htm : at_.tmod (m : Int) = (k : Int) := by rw [Int.tmod_eq_emod_of_nonneg ha1]; exact hk
          have hkb : k < b.length := by rw [← HM.out]; exact hkm
          obtain ⟨bk, hbk⟩ : ∃ x, b[k] = x := ⟨_, rfl⟩
          have T1 : Hd True := ⟨trivial⟩
          go_enter Try.func9, Try.ntmps9
          go_wp2_with (first
            | (go_at_call 13; refine (long_calls _ _ _ l _ (HL.out.below HB.out) HE.out HN.out).mono ?_; rintro e w1 ⟨rfl, hw⟩; obtain rfl : w = w1 := hw.symm; rw [HZ.out])
            | (go_at_call 23; refine (encode_calls _ _ _ l _ (HL.out.below HB.out) HE.out HN.out HI.out).mono ?_; rw [G1.out, G2.out]; rintro e w2 ⟨v2, rfl, ho, hb⟩; obtain ⟨A2, c2, rfl, hcc2, hr2, _⟩ := own_rc ho; rw [HXL.out] at hcc2 ⊢; have R2 := Hd.mk hr2; have HB := Hd.mk (below_then HB.out HB.out.size hb); clear ho hb hr2)
            | (clear T1; go_at_call 25; refine (decode_calls A2 _ _ X _ R2.out HXL.out.symm (by have := HXL.out; omega) hcc2).mono ?_; rw [M1.out, M2.out]; rintro e w3 ⟨v3, rfl, ho, hb⟩; obtain ⟨A3, c3, rfl, _, hr3, _⟩ := own_rc ho; have R3 := Hd.mk hr3; have HB := Hd.mk (below_then HB.out HB.out.size hb); clear ho hb hr3)
            | (go_at_call 15; refine (ents_same' _ _ _ _ _ _ l l _ (HL.out.below HB.out) R3.out HE.out rfl (by have := HN.out; omega)).mono ?_; rintro e w4 ⟨rfl, hb⟩; rw [show decide (l = l) = true from decide_eq_true rfl]; have HB := Hd.mk (below_then HB.out HB.out.size hb); clear hb)
            | (go_at_call 28; refine (copy_any _ _ _ b _ (HBB.out.below HB.out) (by have := HM.out; omega) HM.out).mono ?_; rintro e w5 ⟨v5, rfl, ho, hb⟩; obtain ⟨g, cap, rfl, hg1, hg2⟩ := own_form ho (by omega); have hgw : w.heap.size ≤ g := Nat.le_trans HB.out.size hg1; have HB := Hd.mk (below_then HB.out HB.out.size hb); rw [← HM.out] at ho ⊢; have hcap : m ≤ cap := (by obtain ⟨_, _, e3, h4, _, _⟩ := own_rc ho; injection e3 with _ _ e4; omega); have HO := Hd.mk ho; obtain ⟨hc4, hf4⟩ := own_at ho (bs_at hkb); rw [hbk] at hc4; clear ho hb))
          obtain ⟨q, hq⟩ := xor_byte bk (bit % 8).toNat
          rw [hq]
          have hO5 := (HO.out.stored k (.int .u8 (q.toNat : Int))).1
          have hB5 := HB.out.setCell (p := ⟨g, k, none⟩) hgw (.int .u8 (q.toNat : Int))
          generalize w5.setCell ⟨g, k, none⟩ (.int .u8 (q.toNat : Int)) = w9 at *
          have e9 : (bs b).set k (.int .u8 (q.toNat : Int)) = bs (b.set k q) := by
            rw [show Value.int .u8 (q.toNat : Int) = u8v q from rfl, bs, bs, List.map_set]
          rw [e9] at hO5
          obtain ⟨b2, hb2⟩ : ∃ b2, b.set k q = b2 := ⟨_, rfl⟩
          have HM2 : Hd (m = b2.length) := ⟨by rw [← hb2, List.length_set]; exact HM.out⟩
          rw [hb2] at hO5
          have R5 : Hd (Rc w9 (some ⟨g, 0, none⟩) (bs b2)) := ⟨by obtain ⟨_, _, e3, _, hr3, _⟩ := own_rc hO5; injection e3 with e3; rw [e3]; exact hr3⟩
          have HB := Hd.mk hB5
          clear hO5 hB5 e9 hb2 hq HO hc4 hf4 hg2 hg1 hk htm wa hbk hkb
          by_cases hok : decOk b2
          · obtain ⟨hrD, hE1, hE2⟩ := enc_dec hok
            obtain ⟨_, hd0⟩ := dec_yes hok
            obtain ⟨D, hD⟩ : ∃ D, decL b2 = D := ⟨_, rfl⟩
            rw [hD] at hrD hE1 hE2
            obtain ⟨t, ht⟩ : ∃ t, D.length = t := ⟨_, rfl⟩
            obtain ⟨h560, hris, hall⟩ := right_is hrD
            have ht560 : t ≤ 560 := by omega
            have HDS : Hd (∀ y ∈ D, y.1.size ≤ 140737488351232) := ⟨fun y hy => by have := (right_small hrD y hy).1; omega⟩
            have HD := Hd.mk hD
            have HD0 := Hd.mk hd0
            have HE1 := Hd.mk hE1
            have HE2 := Hd.mk hE2
            have HT := Hd.mk ht
            have HRS := Hd.mk hris
            have HALL := Hd.mk hall
            clear hrD hE1 hE2 hd0 hD ht h560 hris hall hok
            refine (decode_calls (some ⟨g, 0, none⟩) m cap b2 _ R5.out HM2.out (by have := HM2.out; omega) hcap).mono ?_
            rw [HD.out, HD0.out]
            rintro e w6 ⟨v6, rfl, ho, hb⟩
            obtain ⟨A6, c6, rfl, _, hr6, _⟩ := own_rc ho
            rw [HT.out]
            have R6 := Hd.mk hr6
            have R5 := Hd.mk (R5.out.below hb)
            have HB := Hd.mk (below_then HB.out HB.out.size hb)
            clear ho hb hr6
            go_wp2_with (go_at_call 23; refine (encode_calls _ _ _ D _ R6.out HT.out.symm (by have := HT.out; omega) HDS.out).mono ?_; rw [HE1.out, HE2.out]; rintro e w7 ⟨v7, rfl, ho, hb⟩; obtain ⟨A7, c7, rfl, _, hr7, _⟩ := own_rc ho; have R7 := Hd.mk hr7; have R6 := Hd.mk (R6.out.below hb); have R5 := Hd.mk (R5.out.below hb); have HB := Hd.mk (below_then HB.out HB.out.size hb); clear ho hb hr7)
            go_loopw [19] (fun iv wr => ∃ i : Nat, iv = .int .i64 (i : Int) ∧ i ≤ t ∧ Hd (Below w7.heap.size w7 wr)) (fun iv _ => t - (intOf iv).toNat)
            case atStart => exact ⟨0, rfl, Nat.zero_le _, ⟨Below.refl _ _⟩⟩
            case round =>
              obtain ⟨i, rfl, hi, HW⟩ := hrel
              by_cases hlt : i < t
              · have hit : i < D.length := by rw [HT.out]; exact hlt
                have hil : (i : Int) < (t : Int) := by omega
                obtain ⟨b6, o6, rfl, hcell⟩ := node_cell R6.out i hit
                have hnam := (HALL.out _ (List.getElem_mem hit)).1
                have hsx := HDS.out _ (List.getElem_mem hit)
                have hprev : ∀ j, i = j + 1 → ∃ yn, gtN D[i].1 yn = true ∧ ∀ W, Below w7.heap.size w7 W → W.cell? ⟨b6, o6 + j * 2, none⟩ = some (.string yn) := fun j hj => by
                  have hjl : j < D.length := by omega
                  obtain ⟨b', o', e, hc'⟩ := node_cell R6.out j hjl
                  injection e with e
                  injection e with e1 e2
                  subst e1; subst e2
                  exact ⟨D[j].1, List.pairwise_iff_getElem.1 HRS.out j i hjl hit (by omega), fun W hW => (hc' W hW).1⟩
                obtain ⟨xn, hxn⟩ : ∃ xn, D[i].1 = xn := ⟨_, rfl⟩
                rw [hxn] at hcell hnam hsx
                have HC6 : ∀ W, Aft wr W → W.cell? ⟨b6, o6 + i * 2, none⟩ = some (.string xn) := fun W h => (hcell W (below_then HW.out HW.out.size h)).1
                have HNM := Hd.mk hnam
                have HSX := Hd.mk hsx
                clear hcell hnam hsx
                by_cases h0 : i = 0
                · have d0 : decide (0 < i) = false := by simp; omega
                  clear hprev hxn hit h0
                  go_wp2
                  refine region_win #[Value.slice A n c, Value.slice (some ⟨g, 0, none⟩) m cap, Value.int IntKind.u16 at_, Value.int IntKind.u8 bit, undef, undef, undef, undef, u8, Value.slice A2 xl c2, Value.int IntKind.i64 0, Value.slice A3 l.length c3, Value.int IntKind.i64 0, Value.int IntKind.i64 (k : Int), Value.slice (some ⟨g, 0, none⟩) m cap, Value.slice (some ⟨b6, o6, none⟩) t c6, Value.int IntKind.i64 0, Value.slice A7 b2.length c7, Value.int IntKind.i64 0, Value.int IntKind.i64 (i : Int), Value.slice A n c, Value.int IntKind.i64 z, Value.bool false, Value.bool false, Value.slice B m d, Value.int IntKind.i64 (m : Int), Value.bool false, Value.bool false, undef, Value.tuple #[Value.slice A2 xl c2, Value.int IntKind.i64 0], Value.slice A n c, Value.tuple #[Value.slice A2 xl c2, Value.int IntKind.i64 0], Value.slice A2 xl c2, Value.int IntKind.i64 0, Value.tuple #[Value.slice A3 l.length c3, Value.int IntKind.i64 0], Value.slice A2 xl c2, Value.tuple #[Value.slice A3 l.length c3, Value.int IntKind.i64 0], Value.slice A3 l.length c3, Value.int IntKind.i64 0, Value.int IntKind.i64 0, Value.bool true, Value.bool true, Value.int IntKind.i64 0, Value.bool false, Value.bool false, Value.slice A n c, Value.slice A3 l.length c3, Value.bool true, Value.bool false, Value.bool false, Value.bool false, Value.slice A2 xl c2, Value.int IntKind.i64 (xl : Int), Value.slice A n c, Value.int IntKind.i64 (n : Int), Value.int IntKind.i64 (xl : Int), Value.bool false, Value.bool false, Value.bool false, Value.slice B m d, Value.int IntKind.i64 (m : Int), Value.bool true, Value.int IntKind.u16 at_, Value.int IntKind.i64 at_, Value.slice B m d, Value.int IntKind.i64 (m : Int), Value.int IntKind.i64 (k : Int), Value.slice B m d, Value.slice (some ⟨g, 0, none⟩) m cap, Value.slice (some ⟨g, 0, none⟩) m cap, Value.int IntKind.i64 (k : Int), Value.slice (some ⟨g, 0, none⟩) m cap, Value.int IntKind.i64 (k : Int), Value.pointer (some ⟨g, k, none⟩), Value.int IntKind.u8 (bk.toNat : Int), Value.int IntKind.u8 bit, Value.int IntKind.u8 (bit % 8), Value.int IntKind.u8 (2 ^ (bit % 8).toNat % 256), Value.int IntKind.u8 (q.toNat : Int), Value.pointer (some ⟨g, k, none⟩), Value.slice (some ⟨g, 0, none⟩) m cap, Value.tuple #[Value.slice (some ⟨b6, o6, none⟩) t c6, Value.int IntKind.i64 0], Value.slice (some ⟨g, 0, none⟩) m cap, Value.tuple #[Value.slice (some ⟨b6, o6, none⟩) t c6, Value.int IntKind.i64 0], Value.slice (some ⟨b6, o6, none⟩) t c6, Value.int IntKind.i64 0, Value.int IntKind.i64 0, Value.bool false, undef, undef, undef, undef, undef, undef, Value.tuple #[Value.slice A7 b2.length c7, Value.int IntKind.i64 0], Value.slice (some ⟨b6, o6, none⟩) t c6, Value.tuple #[Value.slice A7 b2.length c7, Value.int IntKind.i64 0], Value.slice A7 b2.length c7, Value.int IntKind.i64 0, Value.int IntKind.i64 (i : Int), Value.slice (some ⟨b6, o6, none⟩) t c6, Value.int IntKind.i64 (t : Int), Value.bool true, u103, u104, Value.slice (some ⟨b6, o6, none⟩) t c6, Value.int .i64 (i : Int), Value.pointer (some ⟨b6, o6 + i * 2, none⟩), Value.pointer (some ⟨b6, o6 + i * 2, none⟩), Value.string xn, Value.bool true, Value.bool false, Value.bool false, Value.int .i64 (i : Int), Value.bool false, Value.bool false, undef, undef, undef, undef, undef, undef, undef, undef, undef, undef, undef, undef, Value.bool false, Value.bool false, undef, undef, undef, undef, undef, undef, undef, undef, undef, undef]
                    105 (lbv1 (some ⟨b6, o6, none⟩) t c6 i xn (some ⟨b6, o6 + i * 2, none⟩)) (fun W => Aft wr W) [(15, Value.slice (some ⟨b6, o6, none⟩) t c6), (19, Value.int .i64 (i : Int))] (by kernel_rfl) (by kernel_rfl) (by kernel_rfl) (by kernel_rfl) (by kernel_rfl) (by kernel_rfl) (by kernel_rfl) (by kernel_rfl) (Aft.start wr) ?steps ?fin
                  case steps =>
                    refine StepsAt.cons ?_ (StepsAt.cons ?_ (StepsAt.cons ?_ (StepsAt.cons ?_ (StepsAt.cons ?_ (StepsAt.cons ?_ (StepsAt.cons ?_ (StepsAt.cons ?_ (StepsAt.cons ?_ (StepsAt.cons ?_ (StepsAt.cons ?_ (StepsAt.cons ?_ (StepsAt.cons ?_ (StepsAt.cons ?_ (StepsAt.cons ?_ (StepsAt.cons ?_ (StepsAt.cons ?_ (StepsAt.cons ?_ (StepsAt.cons ?_ (StepsAt.cons ?_ (StepsAt.cons ?_ (StepsAt.cons ?_ (StepsAt.cons ?_ (StepsAt.cons ?_ (StepsAt.cons ?_ StepsAt.nil))))))))))))))))))))))))
                    · refine StepAt.go rfl fun Q A w6 hG hlow hp => ?_
                      have e15 : A.tmps.getD 15 undef = Value.slice (some ⟨b6, o6, none⟩) t c6 := hlow (15, _) (by simp)
                      clear hlow hp
                      go_simp
                      first | rfl | exact ⟨_, rfl, hG, rfl⟩ | exact ⟨hG, rfl⟩
                    · refine StepAt.go rfl fun Q A w6 hG hlow hp => ?_
                      have e19 : A.tmps.getD 19 undef = Value.int .i64 (i : Int) := hlow (19, _) (by simp)
                      clear hlow hp
                      go_simp
                      first | rfl | exact ⟨_, rfl, hG, rfl⟩ | exact ⟨hG, rfl⟩
                    · refine StepAt.go rfl fun Q A w6 hG hlow hp => ?_
                      have e105 : A.tmps.getD 105 undef = Value.slice (some ⟨b6, o6, none⟩) t c6 := hp ⟨0, .data⟩ (by simp) rfl
                      have e106 : A.tmps.getD 106 undef = Value.int .i64 (i : Int) := hp ⟨1, .data⟩ (by simp) rfl
                      clear hlow hp
                      go_simp
                      first | rfl | exact ⟨_, rfl, hG, rfl⟩ | exact ⟨hG, rfl⟩
                    · refine StepAt.go rfl fun Q A w6 hG hlow hp => ?_
                      have e107 : A.tmps.getD 107 undef = Value.pointer (some ⟨b6, o6 + i * 2, none⟩) := hp ⟨2, .data⟩ (by simp) rfl
                      clear hlow hp
                      go_simp
                      first | rfl | exact ⟨_, rfl, hG, rfl⟩ | exact ⟨hG, rfl⟩
                    · refine StepAt.go rfl fun Q A w6 hG hlow hp => ?_
                      have e108 : A.tmps.getD 108 undef = Value.pointer (some ⟨b6, o6 + i * 2, none⟩) := hp ⟨3, .data⟩ (by simp) rfl
                      clear hlow hp
                      have hc := HC6 w6 hG
                      go_simp
                      first | rfl | exact ⟨_, rfl, hG, rfl⟩ | exact ⟨hG, rfl⟩
                    · refine StepAt.go rfl fun Q A w6 hG hlow hp => ?_
                      have e109 : A.tmps.getD 109 undef = Value.string xn := hp ⟨4, .data⟩ (by simp) rfl
                      clear hlow hp
                      go_simp
                      refine (named_b xn true _ HSX.out HNM.out).mono ?_
                      rintro e w7 ⟨rfl, hb⟩
                      first | exact ⟨_, rfl, hG.call hb, rfl⟩ | exact ⟨rfl, hG.call hb⟩ | exact ⟨rfl, hG.call hb, rfl⟩
                    · refine StepAt.go rfl fun Q A w6 hG hlow hp => ?_
                      have e110 : A.tmps.getD 110 undef = Value.bool true := hp ⟨5, .data⟩ (by simp) rfl
                      clear hlow hp
                      go_simp
                      first | rfl | exact ⟨_, rfl, hG, rfl⟩ | exact ⟨hG, rfl⟩
                    · refine StepAt.go rfl fun Q A w6 hG hlow hp => ?_
                      have e111 : A.tmps.getD 111 undef = Value.bool false := hp ⟨6, .data⟩ (by simp) rfl
                      clear hlow hp
                      go_simp
                      first | rfl | exact ⟨_, rfl, hG, rfl⟩ | exact ⟨hG, rfl⟩
                    · refine StepAt.go rfl fun Q A w6 hG hlow hp => ?_
                      have e19 : A.tmps.getD 19 undef = Value.int .i64 (i : Int) := hlow (19, _) (by simp)
                      clear hlow hp
                      go_simp
                      first | rfl | exact ⟨_, rfl, hG, rfl⟩ | exact ⟨hG, rfl⟩
                    · refine StepAt.go rfl fun Q A w6 hG hlow hp => ?_
                      have e113 : A.tmps.getD 113 undef = Value.int .i64 (i : Int) := hp ⟨8, .data⟩ (by simp) rfl
                      clear hlow hp
                      go_simp
                      first | rfl | exact ⟨_, rfl, hG, rfl⟩ | exact ⟨hG, rfl⟩
                    · refine StepAt.go rfl fun Q A w6 hG hlow hp => ?_
                      have e114 : A.tmps.getD 114 undef = Value.bool false := hp ⟨9, .data⟩ (by simp) rfl
                      clear hlow hp
                      go_simp
                      first | rfl | exact ⟨_, rfl, hG, rfl⟩ | exact ⟨hG, rfl⟩
                    · exact StepAt.past rfl rfl
                    · exact StepAt.past rfl rfl
                    · exact StepAt.past rfl rfl
                    · exact StepAt.past rfl rfl
                    · exact StepAt.past rfl rfl
                    · exact StepAt.past rfl rfl
                    · exact StepAt.past rfl rfl
                    · exact StepAt.past rfl rfl
                    · exact StepAt.past rfl rfl
                    · exact StepAt.past rfl rfl
                    · exact StepAt.past rfl rfl
                    · exact StepAt.past rfl rfl
                    · refine StepAt.go rfl fun Q A w6 hG hlow hp => ?_
                      have e115 : A.tmps.getD 115 undef = Value.bool false := hp ⟨10, .data⟩ (by simp) rfl
                      have e127 : A.tmps.getD 127 undef = undef := hp ⟨22, .data⟩ (by simp) rfl
                      clear hlow hp
                      go_simp
                      first | rfl | exact ⟨_, rfl, hG, rfl⟩ | exact ⟨hG, rfl⟩
                    · refine StepAt.go rfl fun Q A w6 hG hlow hp => ?_
                      have e112 : A.tmps.getD 112 undef = Value.bool false := hp ⟨7, .data⟩ (by simp) rfl
                      have e128 : A.tmps.getD 128 undef = Value.bool false := hp ⟨23, .data⟩ (by simp) rfl
                      clear hlow hp
                      go_simp
                      first | rfl | exact ⟨_, rfl, hG, rfl⟩ | exact ⟨hG, rfl⟩
                  case fin =>
                    intro w6 hG
                    have HW := Hd.mk (below_then HW.out HW.out.size hG)
                    clear hG
                    go_wp2
                    go_roundw
                    case rel => exact ⟨i + 1, by go_num, by omega, HW⟩
                    case measure => simp [intOf]; omega
                · obtain ⟨j, hj⟩ : ∃ j, i = j + 1 := ⟨i - 1, by omega⟩
                  obtain ⟨yn, hgt, hcy⟩ := hprev j hj
                  rw [hxn] at hgt
                  have HC7 : ∀ W, Aft wr W → W.cell? ⟨b6, o6 + j * 2, none⟩ = some (.string yn) := fun W h => hcy W (below_then HW.out HW.out.size h)
                  have d0 : decide (0 < i) = true := by simp; omega
                  have hjm : (i : Int) - 1 = (j : Int) := by omega
                  have hjn : (j : Int) < (t : Int) := by omega
                  have hwj : IntKind.i64.wrap (j : Int) = (j : Int) := by rw [IntKind.wrap_i64]; omega
                  rcases gt_ways xn yn with ⟨g0, _⟩ | ⟨g0, _, _⟩ | ⟨_, g1, g2⟩
                  · rw [hgt] at g0; cases g0
                  · rw [hgt] at g0; cases g0
                  clear hprev hxn hit hcy hgt h0 hj
                  go_wp2
                  refine region_win #[Value.slice A n c, Value.slice (some ⟨g, 0, none⟩) m cap, Value.int IntKind.u16 at_, Value.int IntKind.u8 bit, undef, undef, undef, undef, u8, Value.slice A2 xl c2, Value.int IntKind.i64 0, Value.slice A3 l.length c3, Value.int IntKind.i64 0, Value.int IntKind.i64 (k : Int), Value.slice (some ⟨g, 0, none⟩) m cap, Value.slice (some ⟨b6, o6, none⟩) t c6, Value.int IntKind.i64 0, Value.slice A7 b2.length c7, Value.int IntKind.i64 0, Value.int IntKind.i64 (i : Int), Value.slice A n c, Value.int IntKind.i64 z, Value.bool false, Value.bool false, Value.slice B m d, Value.int IntKind.i64 (m : Int), Value.bool false, Value.bool false, undef, Value.tuple #[Value.slice A2 xl c2, Value.int IntKind.i64 0], Value.slice A n c, Value.tuple #[Value.slice A2 xl c2, Value.int IntKind.i64 0], Value.slice A2 xl c2, Value.int IntKind.i64 0, Value.tuple #[Value.slice A3 l.length c3, Value.int IntKind.i64 0], Value.slice A2 xl c2, Value.tuple #[Value.slice A3 l.length c3, Value.int IntKind.i64 0], Value.slice A3 l.length c3, Value.int IntKind.i64 0, Value.int IntKind.i64 0, Value.bool true, Value.bool true, Value.int IntKind.i64 0, Value.bool false, Value.bool false, Value.slice A n c, Value.slice A3 l.length c3, Value.bool true, Value.bool false, Value.bool false, Value.bool false, Value.slice A2 xl c2, Value.int IntKind.i64 (xl : Int), Value.slice A n c, Value.int IntKind.i64 (n : Int), Value.int IntKind.i64 (xl : Int), Value.bool false, Value.bool false, Value.bool false, Value.slice B m d, Value.int IntKind.i64 (m : Int), Value.bool true, Value.int IntKind.u16 at_, Value.int IntKind.i64 at_, Value.slice B m d, Value.int IntKind.i64 (m : Int), Value.int IntKind.i64 (k : Int), Value.slice B m d, Value.slice (some ⟨g, 0, none⟩) m cap, Value.slice (some ⟨g, 0, none⟩) m cap, Value.int IntKind.i64 (k : Int), Value.slice (some ⟨g, 0, none⟩) m cap, Value.int IntKind.i64 (k : Int), Value.pointer (some ⟨g, k, none⟩), Value.int IntKind.u8 (bk.toNat : Int), Value.int IntKind.u8 bit, Value.int IntKind.u8 (bit % 8), Value.int IntKind.u8 (2 ^ (bit % 8).toNat % 256), Value.int IntKind.u8 (q.toNat : Int), Value.pointer (some ⟨g, k, none⟩), Value.slice (some ⟨g, 0, none⟩) m cap, Value.tuple #[Value.slice (some ⟨b6, o6, none⟩) t c6, Value.int IntKind.i64 0], Value.slice (some ⟨g, 0, none⟩) m cap, Value.tuple #[Value.slice (some ⟨b6, o6, none⟩) t c6, Value.int IntKind.i64 0], Value.slice (some ⟨b6, o6, none⟩) t c6, Value.int IntKind.i64 0, Value.int IntKind.i64 0, Value.bool false, undef, undef, undef, undef, undef, undef, Value.tuple #[Value.slice A7 b2.length c7, Value.int IntKind.i64 0], Value.slice (some ⟨b6, o6, none⟩) t c6, Value.tuple #[Value.slice A7 b2.length c7, Value.int IntKind.i64 0], Value.slice A7 b2.length c7, Value.int IntKind.i64 0, Value.int IntKind.i64 (i : Int), Value.slice (some ⟨b6, o6, none⟩) t c6, Value.int IntKind.i64 (t : Int), Value.bool true, u103, u104, Value.slice (some ⟨b6, o6, none⟩) t c6, Value.int .i64 (i : Int), Value.pointer (some ⟨b6, o6 + i * 2, none⟩), Value.pointer (some ⟨b6, o6 + i * 2, none⟩), Value.string xn, Value.bool true, Value.bool false, Value.bool false, Value.int .i64 (i : Int), Value.bool true, Value.bool true, Value.slice (some ⟨b6, o6, none⟩) t c6, Value.int .i64 (i : Int), Value.pointer (some ⟨b6, o6 + i * 2, none⟩), Value.pointer (some ⟨b6, o6 + i * 2, none⟩), Value.string xn, Value.slice (some ⟨b6, o6, none⟩) t c6, Value.int .i64 (i : Int), Value.int .i64 (j : Int), Value.pointer (some ⟨b6, o6 + j * 2, none⟩), Value.pointer (some ⟨b6, o6 + j * 2, none⟩), Value.string yn, Value.bool false, Value.bool false, Value.bool false, undef, undef, undef, undef, undef, undef, undef, undef, undef, undef]
                    105 (lbv2 (some ⟨b6, o6, none⟩) t c6 i j xn yn (some ⟨b6, o6 + i * 2, none⟩) (some ⟨b6, o6 + j * 2, none⟩)) (fun W => Aft wr W) [(15, Value.slice (some ⟨b6, o6, none⟩) t c6), (19, Value.int .i64 (i : Int))] (by kernel_rfl) (by kernel_rfl) (by kernel_rfl) (by kernel_rfl) (by kernel_rfl) (by kernel_rfl) (by kernel_rfl) (by kernel_rfl) (Aft.start wr) ?steps ?fin
                  case steps =>
                    refine StepsAt.cons ?_ (StepsAt.cons ?_ (StepsAt.cons ?_ (StepsAt.cons ?_ (StepsAt.cons ?_ (StepsAt.cons ?_ (StepsAt.cons ?_ (StepsAt.cons ?_ (StepsAt.cons ?_ (StepsAt.cons ?_ (StepsAt.cons ?_ (StepsAt.cons ?_ (StepsAt.cons ?_ (StepsAt.cons ?_ (StepsAt.cons ?_ (StepsAt.cons ?_ (StepsAt.cons ?_ (StepsAt.cons ?_ (StepsAt.cons ?_ (StepsAt.cons ?_ (StepsAt.cons ?_ (StepsAt.cons ?_ (StepsAt.cons ?_ (StepsAt.cons ?_ (StepsAt.cons ?_ StepsAt.nil))))))))))))))))))))))))
                    · refine StepAt.go rfl fun Q A w6 hG hlow hp => ?_
                      have e15 : A.tmps.getD 15 undef = Value.slice (some ⟨b6, o6, none⟩) t c6 := hlow (15, _) (by simp)
                      clear hlow hp
                      go_simp
                      first | rfl | exact ⟨_, rfl, hG, rfl⟩ | exact ⟨hG, rfl⟩
                    · refine StepAt.go rfl fun Q A w6 hG hlow hp => ?_
                      have e19 : A.tmps.getD 19 undef = Value.int .i64 (i : Int) := hlow (19, _) (by simp)
                      clear hlow hp
                      go_simp
                      first | rfl | exact ⟨_, rfl, hG, rfl⟩ | exact ⟨hG, rfl⟩
                    · refine StepAt.go rfl fun Q A w6 hG hlow hp => ?_
                      have e105 : A.tmps.getD 105 undef = Value.slice (some ⟨b6, o6, none⟩) t c6 := hp ⟨0, .data⟩ (by simp) rfl
                      have e106 : A.tmps.getD 106 undef = Value.int .i64 (i : Int) := hp ⟨1, .data⟩ (by simp) rfl
                      clear hlow hp
                      go_simp
                      first | rfl | exact ⟨_, rfl, hG, rfl⟩ | exact ⟨hG, rfl⟩
                    · refine StepAt.go rfl fun Q A w6 hG hlow hp => ?_
                      have e107 : A.tmps.getD 107 undef = Value.pointer (some ⟨b6, o6 + i * 2, none⟩) := hp ⟨2, .data⟩ (by simp) rfl
                      clear hlow hp
                      go_simp
                      first | rfl | exact ⟨_, rfl, hG, rfl⟩ | exact ⟨hG, rfl⟩
                    · refine StepAt.go rfl fun Q A w6 hG hlow hp => ?_
                      have e108 : A.tmps.getD 108 undef = Value.pointer (some ⟨b6, o6 + i * 2, none⟩) := hp ⟨3, .data⟩ (by simp) rfl
                      clear hlow hp
                      have hc := HC6 w6 hG
                      go_simp
                      first | rfl | exact ⟨_, rfl, hG, rfl⟩ | exact ⟨hG, rfl⟩
                    · refine StepAt.go rfl fun Q A w6 hG hlow hp => ?_
                      have e109 : A.tmps.getD 109 undef = Value.string xn := hp ⟨4, .data⟩ (by simp) rfl
                      clear hlow hp
                      go_simp
                      refine (named_b xn true _ HSX.out HNM.out).mono ?_
                      rintro e w7 ⟨rfl, hb⟩
                      first | exact ⟨_, rfl, hG.call hb, rfl⟩ | exact ⟨rfl, hG.call hb⟩ | exact ⟨rfl, hG.call hb, rfl⟩
                    · refine StepAt.go rfl fun Q A w6 hG hlow hp => ?_
                      have e110 : A.tmps.getD 110 undef = Value.bool true := hp ⟨5, .data⟩ (by simp) rfl
                      clear hlow hp
                      go_simp
                      first | rfl | exact ⟨_, rfl, hG, rfl⟩ | exact ⟨hG, rfl⟩
                    · refine StepAt.go rfl fun Q A w6 hG hlow hp => ?_
                      have e111 : A.tmps.getD 111 undef = Value.bool false := hp ⟨6, .data⟩ (by simp) rfl
                      clear hlow hp
                      go_simp
                      first | rfl | exact ⟨_, rfl, hG, rfl⟩ | exact ⟨hG, rfl⟩
                    · refine StepAt.go rfl fun Q A w6 hG hlow hp => ?_
                      have e19 : A.tmps.getD 19 undef = Value.int .i64 (i : Int) := hlow (19, _) (by simp)
                      clear hlow hp
                      go_simp
                      first | rfl | exact ⟨_, rfl, hG, rfl⟩ | exact ⟨hG, rfl⟩
                    · refine StepAt.go rfl fun Q A w6 hG hlow hp => ?_
                      have e113 : A.tmps.getD 113 undef = Value.int .i64 (i : Int) := hp ⟨8, .data⟩ (by simp) rfl
                      clear hlow hp
                      go_simp
                      first | rfl | exact ⟨_, rfl, hG, rfl⟩ | exact ⟨hG, rfl⟩
                    · refine StepAt.go rfl fun Q A w6 hG hlow hp => ?_
                      have e114 : A.tmps.getD 114 undef = Value.bool true := hp ⟨9, .data⟩ (by simp) rfl
                      clear hlow hp
                      go_simp
                      first | rfl | exact ⟨_, rfl, hG, rfl⟩ | exact ⟨hG, rfl⟩
                    · refine StepAt.go rfl fun Q A w6 hG hlow hp => ?_
                      have e15 : A.tmps.getD 15 undef = Value.slice (some ⟨b6, o6, none⟩) t c6 := hlow (15, _) (by simp)
                      clear hlow hp
                      go_simp
                      first | rfl | exact ⟨_, rfl, hG, rfl⟩ | exact ⟨hG, rfl⟩
                    · refine StepAt.go rfl fun Q A w6 hG hlow hp => ?_
                      have e19 : A.tmps.getD 19 undef = Value.int .i64 (i : Int) := hlow (19, _) (by simp)
                      clear hlow hp
                      go_simp
                      first | rfl | exact ⟨_, rfl, hG, rfl⟩ | exact ⟨hG, rfl⟩
                    · refine StepAt.go rfl fun Q A w6 hG hlow hp => ?_
                      have e116 : A.tmps.getD 116 undef = Value.slice (some ⟨b6, o6, none⟩) t c6 := hp ⟨11, .data⟩ (by simp) rfl
                      have e117 : A.tmps.getD 117 undef = Value.int .i64 (i : Int) := hp ⟨12, .data⟩ (by simp) rfl
                      clear hlow hp
                      go_simp
                      first | rfl | exact ⟨_, rfl, hG, rfl⟩ | exact ⟨hG, rfl⟩
                    · refine StepAt.go rfl fun Q A w6 hG hlow hp => ?_
                      have e118 : A.tmps.getD 118 undef = Value.pointer (some ⟨b6, o6 + i * 2, none⟩) := hp ⟨13, .data⟩ (by simp) rfl
                      clear hlow hp
                      go_simp
                      first | rfl | exact ⟨_, rfl, hG, rfl⟩ | exact ⟨hG, rfl⟩
                    · refine StepAt.go rfl fun Q A w6 hG hlow hp => ?_
                      have e119 : A.tmps.getD 119 undef = Value.pointer (some ⟨b6, o6 + i * 2, none⟩) := hp ⟨14, .data⟩ (by simp) rfl
                      clear hlow hp
                      have hc := HC6 w6 hG
                      go_simp
                      first | rfl | exact ⟨_, rfl, hG, rfl⟩ | exact ⟨hG, rfl⟩
                    · refine StepAt.go rfl fun Q A w6 hG hlow hp => ?_
                      have e15 : A.tmps.getD 15 undef = Value.slice (some ⟨b6, o6, none⟩) t c6 := hlow (15, _) (by simp)
                      clear hlow hp
                      go_simp
                      first | rfl | exact ⟨_, rfl, hG, rfl⟩ | exact ⟨hG, rfl⟩
                    · refine StepAt.go rfl fun Q A w6 hG hlow hp => ?_
                      have e19 : A.tmps.getD 19 undef = Value.int .i64 (i : Int) := hlow (19, _) (by simp)
                      clear hlow hp
                      go_simp
                      first | rfl | exact ⟨_, rfl, hG, rfl⟩ | exact ⟨hG, rfl⟩
                    · refine StepAt.go rfl fun Q A w6 hG hlow hp => ?_
                      have e122 : A.tmps.getD 122 undef = Value.int .i64 (i : Int) := hp ⟨17, .data⟩ (by simp) rfl
                      clear hlow hp
                      go_simp
                      first | rfl | exact ⟨_, rfl, hG, rfl⟩ | exact ⟨hG, rfl⟩
                    · refine StepAt.go rfl fun Q A w6 hG hlow hp => ?_
                      have e121 : A.tmps.getD 121 undef = Value.slice (some ⟨b6, o6, none⟩) t c6 := hp ⟨16, .data⟩ (by simp) rfl
                      have e123 : A.tmps.getD 123 undef = Value.int .i64 (j : Int) := hp ⟨18, .data⟩ (by simp) rfl
                      clear hlow hp
                      go_simp
                      first | rfl | exact ⟨_, rfl, hG, rfl⟩ | exact ⟨hG, rfl⟩
                    · refine StepAt.go rfl fun Q A w6 hG hlow hp => ?_
                      have e124 : A.tmps.getD 124 undef = Value.pointer (some ⟨b6, o6 + j * 2, none⟩) := hp ⟨19, .data⟩ (by simp) rfl
                      clear hlow hp
                      go_simp
                      first | rfl | exact ⟨_, rfl, hG, rfl⟩ | exact ⟨hG, rfl⟩
                    · refine StepAt.go rfl fun Q A w6 hG hlow hp => ?_
                      have e125 : A.tmps.getD 125 undef = Value.pointer (some ⟨b6, o6 + j * 2, none⟩) := hp ⟨20, .data⟩ (by simp) rfl
                      clear hlow hp
                      have hc := HC7 w6 hG
                      go_simp
                      first | rfl | exact ⟨_, rfl, hG, rfl⟩ | exact ⟨hG, rfl⟩
                    · refine StepAt.go rfl fun Q A w6 hG hlow hp => ?_
                      have e120 : A.tmps.getD 120 undef = Value.string xn := hp ⟨15, .data⟩ (by simp) rfl
                      have e126 : A.tmps.getD 126 undef = Value.string yn := hp ⟨21, .data⟩ (by simp) rfl
                      clear hlow hp
                      go_simp
                      first | rfl | exact ⟨_, rfl, hG, rfl⟩ | exact ⟨hG, rfl⟩
                    · refine StepAt.go rfl fun Q A w6 hG hlow hp => ?_
                      have e115 : A.tmps.getD 115 undef = Value.bool true := hp ⟨10, .data⟩ (by simp) rfl
                      have e127 : A.tmps.getD 127 undef = Value.bool false := hp ⟨22, .data⟩ (by simp) rfl
                      clear hlow hp
                      go_simp
                      first | rfl | exact ⟨_, rfl, hG, rfl⟩ | exact ⟨hG, rfl⟩
                    · refine StepAt.go rfl fun Q A w6 hG hlow hp => ?_
                      have e112 : A.tmps.getD 112 undef = Value.bool false := hp ⟨7, .data⟩ (by simp) rfl
                      have e128 : A.tmps.getD 128 undef = Value.bool false := hp ⟨23, .data⟩ (by simp) rfl
                      clear hlow hp
                      go_simp
                      first | rfl | exact ⟨_, rfl, hG, rfl⟩ | exact ⟨hG, rfl⟩
                  case fin =>
                    intro w6 hG
                    have HW := Hd.mk (below_then HW.out HW.out.size hG)
                    clear hG
                    go_wp2
                    go_roundw
                    case rel => exact ⟨i + 1, by go_num, by omega, HW⟩
                    case measure => simp [intOf]; omega
              · obtain rfl : i = t := by omega
                go_wp2_with (first
                  | (go_at_call 27; refine (same_b _ _ _ _ _ _ b2 b2 _ (R7.out.below HW.out) (R5.out.below HW.out) rfl HM2.out rfl).mono ?_; rintro e w8 ⟨rfl, hw⟩; obtain rfl := hw.symm)
                  | (go_at_call 11; refine (known_calls _).mono ?_; rintro e w12 ⟨rfl, hb⟩; have HB := Hd.mk (below_then HB.out HB.out.size (below_then HW.out HW.out.size hb)); clear hb))
                go_ret
                exact ⟨rfl, HB.out⟩
          · obtain ⟨hd1, hd2⟩ := dec_no hok
            have HD1 := Hd.mk hd1
            have HD2 := Hd.mk hd2
            clear hok hd1 hd2
            refine (decode_calls (some ⟨g, 0, none⟩) m cap b2 _ R5.out HM2.out (by have := HM2.out; omega) hcap).mono ?_
            rw [HD1.out, HD2.out]
            rintro e w6 ⟨v6, rfl, ho, hb⟩
            obtain ⟨A6, c6, rfl, _, hr6, _⟩ := own_rc ho
            have HB := Hd.mk (below_then HB.out HB.out.size hb)
            clear ho hb hr6
            go_wp2_with (go_at_call 11; refine (known_calls _).mono ?_; rintro e w12 ⟨rfl, hb⟩; have HB := Hd.mk (below_then HB.out HB.out.size hb); clear hb)
            go_ret
            exact ⟨rfl, HB.out⟩
    · go_enter Try.func9, Try.ntmps9
      go_wp2_with (first
        | (go_at_call 13; refine (long_calls _ _ _ l _ (HL.out.below HB.out) HE.out HN.out).mono ?_; rintro e w1 ⟨rfl, hw⟩; obtain rfl : w = w1 := hw.symm; rw [HZ.out])
        | (go_at_call 11; refine (known_calls _).mono ?_; rintro e w12 ⟨rfl, hb⟩; have HB := Hd.mk (below_then HB.out HB.out.size hb); clear hb))
      go_ret
      exact ⟨rfl, HB.out⟩
  · go_enter Try.func9, Try.ntmps9
    go_wp2_with (first
      | (go_at_call 13; refine (long_calls _ _ _ l _ (HL.out.below HB.out) HE.out HN.out).mono ?_; rintro e w1 ⟨rfl, hw⟩; obtain rfl : w = w1 := hw.symm; rw [HZ.out])
      | (go_at_call 11; refine (known_calls _).mono ?_; rintro e w12 ⟨rfl, hb⟩; have HB := Hd.mk (below_then HB.out HB.out.size hb); clear hb))
    go_ret
    exact ⟨rfl, HB.out⟩
end Go.Proofs.Ytiloeaenpanjcaa
