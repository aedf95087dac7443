/- Walks: the law NodeBack. -/
import Derived.Test.YtmebgejjaljhgaaP13c
import Derived.Test.YtmebgejjaljhgaaN13LawEncodes
namespace Go.Proofs.Ytmebgejjaljhgaa
open Go.RowKit Go.Sac
set_option linter.unusedVariables false
set_option linter.unusedSimpArgs false

section
variable {P : Program} {ops : Array Oper} {rest : List Oper} {o : Oper} {a : Act} {w : World} {Q : Exit → Act → World → Prop}
theorem wpList_neq_w (r : Bool) (hw : Region.wanted o (yielded ops a.tmps) = true) (t rt : TypeId) (x y : Operand) (ho : o.op = .binOp .neq t x y rt) (xs ys : Array Value) (hx : a.eval x = .agg xs) (hy : a.eval y = .agg ys)
    (hg : P.eqGuardType P.depth t = false) (h : (Op.equalIn 10000 t (.agg xs) (.agg ys)).run P w = .ok r w) (hk : wpList P ops Q rest (a.put o.dst (.bool (!r))) w) : wpList P ops Q (o :: rest) a w := by
  refine wpList_val_w (.bool (!r)) hw ?_ hk
  unfold execOp
  simp only [ho, hx, hy, Sem.run_bind, run_eqGuard_agg w .neq t x y xs ys hg, run_neq_struct w t xs ys, h, Result.andThen_ok, Sem.run_pure]
end
theorem right_c (xs : List Int) (hx : xs.length = 10) {r : Bool} (hr : rightB xs = r) : Hd (∀ w, Calls Try.prog 12 #[ino xs] w fun e w' => e = .returned (.bool r) ∧ Below w.heap.size w w') := ⟨fun w => by subst hr; exact right_calls xs w hx⟩
theorem self_eq (xs : List Int) (hx : xs.length = 10) : Hd (∀ w, (Op.equalIn 10000 24 (.agg (ns xs).toArray) (.agg (ns xs).toArray)).run Try.prog w = .ok true w) := ⟨fun w => (eq_inode xs xs hx hx w).trans (congrArg (Result.ok · w) (beq_self_eq_true xs))⟩
theorem index_any (A : Option Addr) (n c : Nat) (l : List Int) (F : List UInt8) (er : Int) (w : World) (hl : Rc w A (ns l)) (e : n = l.length) (hn : l.length ≤ 1000000) (hF : idxB l = F ∧ idxE l = er) :
    Calls Try.prog 21 #[.slice A n c] w (RetE 5 F er w) := by
  subst e
  have := index_calls A c l w hl (by omega)
  rwa [hF.1, hF.2] at this
theorem pointers_any (A : Option Addr) (n c : Nat) (b : List UInt8) (Y : List Int) (er : Int) (w : World) (hl : Rc w A (bs b)) (e : n = b.length) (hc : b.length ≤ c) (hn : b.length ≤ 1000000) (hY : ptsL b = Y ∧ ptsE b = er) :
    Calls Try.prog 26 #[.slice A n c] w (RetN Y er w) := by
  subst e
  have := pointers_calls A c b w hl hc (by omega)
  rwa [hY.1, hY.2] at this
theorem idxB_len (l : List Int) : (idxB l).length ≤ 1000 := by
  cases h : idxP l
  · rw [(idx_no h).1]; exact Nat.zero_le _
  · obtain ⟨e, h64⟩ := idxB_yes h
    rw [e, List.length_append, pflat_len4 l l.length (Nat.le_refl _), List.length_replicate]; omega
set_option maxRecDepth 100000 in
set_option maxHeartbeats 16000000 in
theorem law_back (xs : List Int) (A : Option Addr) (c : Nat) (l : List Int) (B : Option Addr) (d : Nat) (b : List UInt8) (w : World) (hx : xs.length = 10) (hl : Rc w A (ns l)) (hc : l.length ≤ c) (hn : l.length ≤ 140737488351232) (hi : ∀ n ∈ l, (Lit.int .i64 n).wf = true) (hb : Rc w B (bs b)) (hd : b.length ≤ d) (hm : b.length ≤ 140737488351232) :
    Calls Try.prog 9 #[ino xs, .slice A l.length c, .slice B b.length d] w (RetT w) := by
  unfold ino
  have K3 : Hd (Blk (w.alloc (.cells (ns xs).toArray 24)) w.heap.size 24 (ns xs)) := ⟨Blk.new w _ _⟩
  have HB : Hd (Below w.heap.size w (w.alloc (.cells (ns xs).toArray 24))) := ⟨(Below.refl _ w).alloc (Nat.le_refl _) _⟩
  clear hi
  by_cases hbig : l.length > 64
  · have d1 : decide ((l.length : Int) > 64) = true := by simp; omega
    clear hbig hl hc hx hb hd
    go_enter Try.func9, Try.ntmps9
    go_wp2_with (go_at_call 13; refine (known_calls _).mono ?_; rintro e w1 ⟨rfl, hb⟩; have HB := Hd.mk (below_then HB.out HB.out.size hb); clear hb)
    go_ret
    exact ⟨rfl, HB.out⟩
  have d1 : decide ((l.length : Int) > 64) = false := by simp; omega
  by_cases hbig2 : b.length > 400
  · have d2 : decide ((b.length : Int) > 400) = true := by simp; omega
    clear hbig hbig2 hl hc hx hb hd
    go_enter Try.func9, Try.ntmps9
    go_wp2_with (go_at_call 13; refine (known_calls _).mono ?_; rintro e w1 ⟨rfl, hb⟩; have HB := Hd.mk (below_then HB.out HB.out.size hb); clear hb)
    go_ret
    exact ⟨rfl, HB.out⟩
  have d2 : decide ((b.length : Int) > 400) = false := by simp; omega
  have HX := Hd.mk hx
  have HL := Hd.mk hl
  have HC := Hd.mk hc
  have HBB := Hd.mk hb
  have HD := Hd.mk hd
  have HN64 : Hd (l.length ≤ 64) := ⟨by omega⟩
  have HB400 : Hd (b.length ≤ 400) := ⟨by omega⟩
  have HXS := self_eq xs hx
  have HZS := self_eq zeroI rfl
  obtain ⟨F, hF⟩ : ∃ F, idxB l = F := ⟨_, rfl⟩
  have HFL : Hd (F.length ≤ 1000) := ⟨by rw [← hF]; exact idxB_len l⟩
  clear hbig hbig2 hl hc hb hd
  cases h1 : rightB xs
  · cases h2 : idxP l
    · cases h3 : decP b
      · obtain ⟨E, hE⟩ : ∃ E : List UInt8, [] = E := ⟨_, rfl⟩
        have HE := enc_is xs hx ⟨(show encB xs = [] by unfold encB; rw [h1]; rfl).trans hE, show encE xs = 2 by unfold encE; rw [h1]; rfl⟩
        have HD1 : Hd (decX E = zeroI ∧ decE E = 4) := ⟨dec_no (decP_len (by rw [← hE]; simp))⟩
        have HEL : Hd (E.length = 0) := ⟨by rw [← hE]; rfl⟩
        have HRX := right_c xs hx h1
        clear hE
        have HFI : Hd (idxB l = F ∧ idxE l = 2) := ⟨hF, (idx_no h2).2⟩
        obtain ⟨Y, hY⟩ : ∃ Y, ptsL F = Y := ⟨_, rfl⟩
        obtain ⟨pe, hpe⟩ : ∃ pe, ptsE F = pe := ⟨_, rfl⟩
        have HFP := Hd.mk (And.intro hY hpe)
        clear hY hpe
        have HD2 := Hd.mk (dec_no h3)
        have HZL : Hd (zeroI.length = 10) := ⟨rfl⟩
        clear h1 h2 h3 hF hx
        have T1 : Hd True := ⟨trivial⟩
        have T2 : Hd True := ⟨trivial⟩
        have T3 : Hd True := ⟨trivial⟩
        have T4 : Hd True := ⟨trivial⟩
        have T5 : Hd True := ⟨trivial⟩
        have T6 : Hd True := ⟨trivial⟩
        go_enter Try.func9, Try.ntmps9
        go_wp2_with (first
          | (refine wpList_load_row_w rfl 24 (.tmp 3) rfl w.heap.size rfl 24 _ (0, 0) _ K3.out Try.underlying24 rfl (ten_size HX.out) ?_)
          | (go_at_call 11; clear T1; refine (HE.out _).mono ?_; rintro e w1 ⟨v1, rfl, ho, hb⟩; rw [HEL.out] at ho; obtain ⟨A1, c1, rfl, hc1, hr1, _⟩ := own_rc ho; have HR1 := Hd.mk hr1; have HC1 := Hd.mk hc1; have K3 := Hd.mk (K3.out.below hb K3.out.lt); have HB := Hd.mk (below_then HB.out HB.out.size hb); clear ho hb hr1 hc1)
          | (go_at_call 24; clear T2; refine (decode_any A1 0 c1 E _ HR1.out HEL.out.symm (by have := HEL.out; have := HC1.out; omega) (by have := HEL.out; omega)).mono ?_; rintro e w2 ⟨rfl, hb⟩; rw [HD1.out.1, HD1.out.2]; have K3 := Hd.mk (K3.out.below hb K3.out.lt); have HB := Hd.mk (below_then HB.out HB.out.size hb); clear hb)
          | (refine wpList_store_row rfl 24 (.tmp 9) (.tmp 36) rfl w2.heap.size (ns zeroI).toArray rfl rfl 24 _ (Blk.new w2 24 (ns zeroI)) (ten_size rfl) (ten_same rfl) (ten_one zeroI) ?_
             have K9 := Hd.mk ((Blk.new w2 24 (ns zeroI)).putRow (ns zeroI))
             have K3 := Hd.mk ((K3.out.alloc (.cells (ns zeroI).toArray 24)).rowFar (g := w2.heap.size) (by have := K3.out.lt; omega) (ns zeroI).toArray)
             have HB := Hd.mk (below_row (HB.out.alloc HB.out.size (.cells (ns zeroI).toArray 24)) HB.out.size (ns zeroI).toArray))
          | (go_at_call 12; clear T3; refine (HRX.out _).mono ?_; rintro e w3 ⟨rfl, hb⟩; have K3 := Hd.mk (K3.out.below hb K3.out.lt); have HB := Hd.mk (below_then HB.out HB.out.size hb); clear hb)
          | (go_at_call 21; refine (index_any A _ c l F _ _ (HL.out.below HB.out) rfl (by have := HN64.out; omega) HFI.out).mono ?_; rintro e w4 ⟨v4, rfl, ho, hb⟩; obtain ⟨A4, c4, rfl, hc4, hr4, _⟩ := own_rc ho; have HR4 := Hd.mk hr4; have HC4 := Hd.mk hc4; have HB := Hd.mk (below_then HB.out HB.out.size hb); clear ho hb hr4 hc4)
          | (go_at_call 26; refine (pointers_any A4 _ c4 F Y _ _ HR4.out rfl HC4.out (by have := HFL.out; omega) HFP.out).mono ?_; rintro e w5 ⟨v5, rfl, ho, hb⟩; have HB := Hd.mk (below_then HB.out HB.out.size hb); clear ho hb)
          | (go_at_call 24; clear T4; refine (decode_any B _ d b _ (HBB.out.below HB.out) rfl HD.out (by have := HB400.out; omega)).mono ?_; rintro e w7 ⟨rfl, hb⟩; rw [HD2.out.1, HD2.out.2]; have HB := Hd.mk (below_then HB.out HB.out.size hb); clear hb)
          | (refine wpList_store_row rfl 24 (.tmp 15) (.tmp 92) rfl w7.heap.size (ns zeroI).toArray rfl rfl 24 _ (Blk.new w7 24 (ns zeroI)) (ten_size HZL.out) (ten_same HZL.out) (ten_one zeroI) ?_
             have K15 := Hd.mk ((Blk.new w7 24 (ns zeroI)).putRow (ns zeroI))
             have HB := Hd.mk (below_row (HB.out.alloc HB.out.size (.cells (ns zeroI).toArray 24)) HB.out.size (ns zeroI).toArray))
          | (refine wpList_load_row_w rfl 24 (.tmp 15) rfl _ rfl 24 (ns zeroI).toArray (0, 0) _ K15.out Try.underlying24 rfl (ten_size HZL.out) ?_)
          | (refine wpList_eql_w true rfl 24 _ (.tmp 96) (.tmp 97) rfl (ns zeroI).toArray (ns zeroI).toArray rfl rfl (by kernel_rfl) (HZS.out _) ?_)
          | (go_at_call 13; refine (known_calls _).mono ?_; rintro e w11 ⟨rfl, hb⟩; have HB := Hd.mk (below_then HB.out HB.out.size hb); clear hb))
        go_ret
        exact ⟨rfl, HB.out⟩
      · obtain ⟨E, hE⟩ : ∃ E : List UInt8, [] = E := ⟨_, rfl⟩
        have HE := enc_is xs hx ⟨(show encB xs = [] by unfold encB; rw [h1]; rfl).trans hE, show encE xs = 2 by unfold encE; rw [h1]; rfl⟩
        have HD1 : Hd (decX E = zeroI ∧ decE E = 4) := ⟨dec_no (decP_len (by rw [← hE]; simp))⟩
        have HEL : Hd (E.length = 0) := ⟨by rw [← hE]; rfl⟩
        have HRX := right_c xs hx h1
        clear hE
        have HFI : Hd (idxB l = F ∧ idxE l = 2) := ⟨hF, (idx_no h2).2⟩
        obtain ⟨Y, hY⟩ : ∃ Y, ptsL F = Y := ⟨_, rfl⟩
        obtain ⟨pe, hpe⟩ : ∃ pe, ptsE F = pe := ⟨_, rfl⟩
        have HFP := Hd.mk (And.intro hY hpe)
        clear hY hpe
        obtain ⟨Z, hZ⟩ : ∃ Z, decL b = Z := ⟨_, rfl⟩
        have hZl : Z.length = 10 := by rw [← hZ]; exact decK_len b 10
        have HD2 : Hd (decX b = Z ∧ decE b = 0) := ⟨by rw [← hZ]; exact dec_yes h3⟩
        have h4 : rightB Z = true ∧ encB Z = b := by
          unfold decP at h3
          rw [Bool.and_eq_true, Bool.and_eq_true, beq_iff_eq, hZ] at h3
          exact ⟨h3.1.2, h3.2.symm⟩
        have HZE := enc_is Z hZl ⟨h4.2, show encE Z = 0 by unfold encE; rw [h4.1]; rfl⟩
        have HZR := right_c Z hZl h4.1
        have HZL := Hd.mk hZl
        clear hZ hZl h4
        clear h1 h2 h3 hF hx
        have T1 : Hd True := ⟨trivial⟩
        have T2 : Hd True := ⟨trivial⟩
        have T3 : Hd True := ⟨trivial⟩
        have T4 : Hd True := ⟨trivial⟩
        have T5 : Hd True := ⟨trivial⟩
        have T6 : Hd True := ⟨trivial⟩
        go_enter Try.func9, Try.ntmps9
        go_wp2_with (first
          | (refine wpList_load_row_w rfl 24 (.tmp 3) rfl w.heap.size rfl 24 _ (0, 0) _ K3.out Try.underlying24 rfl (ten_size HX.out) ?_)
          | (go_at_call 11; clear T1; refine (HE.out _).mono ?_; rintro e w1 ⟨v1, rfl, ho, hb⟩; rw [HEL.out] at ho; obtain ⟨A1, c1, rfl, hc1, hr1, _⟩ := own_rc ho; have HR1 := Hd.mk hr1; have HC1 := Hd.mk hc1; have K3 := Hd.mk (K3.out.below hb K3.out.lt); have HB := Hd.mk (below_then HB.out HB.out.size hb); clear ho hb hr1 hc1)
          | (go_at_call 24; clear T2; refine (decode_any A1 0 c1 E _ HR1.out HEL.out.symm (by have := HEL.out; have := HC1.out; omega) (by have := HEL.out; omega)).mono ?_; rintro e w2 ⟨rfl, hb⟩; rw [HD1.out.1, HD1.out.2]; have K3 := Hd.mk (K3.out.below hb K3.out.lt); have HB := Hd.mk (below_then HB.out HB.out.size hb); clear hb)
          | (refine wpList_store_row rfl 24 (.tmp 9) (.tmp 36) rfl w2.heap.size (ns zeroI).toArray rfl rfl 24 _ (Blk.new w2 24 (ns zeroI)) (ten_size rfl) (ten_same rfl) (ten_one zeroI) ?_
             have K9 := Hd.mk ((Blk.new w2 24 (ns zeroI)).putRow (ns zeroI))
             have K3 := Hd.mk ((K3.out.alloc (.cells (ns zeroI).toArray 24)).rowFar (g := w2.heap.size) (by have := K3.out.lt; omega) (ns zeroI).toArray)
             have HB := Hd.mk (below_row (HB.out.alloc HB.out.size (.cells (ns zeroI).toArray 24)) HB.out.size (ns zeroI).toArray))
          | (go_at_call 12; clear T3; refine (HRX.out _).mono ?_; rintro e w3 ⟨rfl, hb⟩; have K3 := Hd.mk (K3.out.below hb K3.out.lt); have HB := Hd.mk (below_then HB.out HB.out.size hb); clear hb)
          | (go_at_call 21; refine (index_any A _ c l F _ _ (HL.out.below HB.out) rfl (by have := HN64.out; omega) HFI.out).mono ?_; rintro e w4 ⟨v4, rfl, ho, hb⟩; obtain ⟨A4, c4, rfl, hc4, hr4, _⟩ := own_rc ho; have HR4 := Hd.mk hr4; have HC4 := Hd.mk hc4; have HB := Hd.mk (below_then HB.out HB.out.size hb); clear ho hb hr4 hc4)
          | (go_at_call 26; refine (pointers_any A4 _ c4 F Y _ _ HR4.out rfl HC4.out (by have := HFL.out; omega) HFP.out).mono ?_; rintro e w5 ⟨v5, rfl, ho, hb⟩; have HB := Hd.mk (below_then HB.out HB.out.size hb); clear ho hb)
          | (go_at_call 24; clear T4; refine (decode_any B _ d b _ (HBB.out.below HB.out) rfl HD.out (by have := HB400.out; omega)).mono ?_; rintro e w7 ⟨rfl, hb⟩; rw [HD2.out.1, HD2.out.2]; have HB := Hd.mk (below_then HB.out HB.out.size hb); clear hb)
          | (refine wpList_store_row rfl 24 (.tmp 15) (.tmp 92) rfl w7.heap.size (ns Z).toArray rfl rfl 24 _ (Blk.new w7 24 (ns zeroI)) (ten_size HZL.out) (ten_same HZL.out) (ten_one Z) ?_
             have K15 := Hd.mk ((Blk.new w7 24 (ns zeroI)).putRow (ns Z))
             have HB := Hd.mk (below_row (HB.out.alloc HB.out.size (.cells (ns zeroI).toArray 24)) HB.out.size (ns Z).toArray))
          | (refine wpList_load_row_w rfl 24 (.tmp 15) rfl _ rfl 24 (ns Z).toArray (0, 0) _ K15.out Try.underlying24 rfl (ten_size HZL.out) ?_)
          | (go_at_call 11; clear T5; refine (HZE.out _).mono ?_; rintro e w8 ⟨v8, rfl, ho, hb⟩; obtain ⟨A8, c8, rfl, hc8, hr8, _⟩ := own_rc ho; have HR8 := Hd.mk hr8; have K15 := Hd.mk (K15.out.below hb K15.out.lt); have HB := Hd.mk (below_then HB.out HB.out.size hb); clear ho hb hr8)
          | (go_at_call 12; clear T6; refine (HZR.out _).mono ?_; rintro e w9 ⟨rfl, hb⟩; have HR8 := Hd.mk (HR8.out.below hb); have HB := Hd.mk (below_then HB.out HB.out.size hb); clear hb)
          | (go_at_call 14; refine (same_any A8 B _ _ c8 d b b _ HR8.out (HBB.out.below HB.out) rfl rfl).mono ?_; rintro e w10 ⟨rfl, rfl⟩; rw [show (b == b) = true by simp])
          | (go_at_call 13; refine (known_calls _).mono ?_; rintro e w11 ⟨rfl, hb⟩; have HB := Hd.mk (below_then HB.out HB.out.size hb); clear hb))
        go_ret
        exact ⟨rfl, HB.out⟩
    · cases h3 : decP b
      · obtain ⟨E, hE⟩ : ∃ E : List UInt8, [] = E := ⟨_, rfl⟩
        have HE := enc_is xs hx ⟨(show encB xs = [] by unfold encB; rw [h1]; rfl).trans hE, show encE xs = 2 by unfold encE; rw [h1]; rfl⟩
        have HD1 : Hd (decX E = zeroI ∧ decE E = 4) := ⟨dec_no (decP_len (by rw [← hE]; simp))⟩
        have HEL : Hd (E.length = 0) := ⟨by rw [← hE]; rfl⟩
        have HRX := right_c xs hx h1
        clear hE
        have HFI : Hd (idxB l = F ∧ idxE l = 0) := ⟨hF, (idx_yes h2).2⟩
        obtain ⟨Y, hY⟩ : ∃ Y, ptsL F = Y := ⟨_, rfl⟩
        have hpi := pts_idx h2
        rw [hF] at hpi
        have HFP : Hd (ptsL F = Y ∧ ptsE F = 0) := ⟨hY, hpi.2⟩
        have HYL : Hd (Y.length = 64) := ⟨by rw [← hY, hpi.1, List.length_append, List.length_replicate]; have := HN64.out; omega⟩
        have HYT : Hd ((ns Y).take l.length = ns l) := ⟨by rw [← hY, hpi.1, ns, ← List.map_take, List.take_left' rfl]⟩
        clear hY hpi
        have HD2 := Hd.mk (dec_no h3)
        have HZL : Hd (zeroI.length = 10) := ⟨rfl⟩
        clear h1 h2 h3 hF hx
        have T1 : Hd True := ⟨trivial⟩
        have T2 : Hd True := ⟨trivial⟩
        have T3 : Hd True := ⟨trivial⟩
        have T4 : Hd True := ⟨trivial⟩
        have T5 : Hd True := ⟨trivial⟩
        have T6 : Hd True := ⟨trivial⟩
        go_enter Try.func9, Try.ntmps9
        go_wp2_with (first
          | (refine wpList_load_row_w rfl 24 (.tmp 3) rfl w.heap.size rfl 24 _ (0, 0) _ K3.out Try.underlying24 rfl (ten_size HX.out) ?_)
          | (go_at_call 11; clear T1; refine (HE.out _).mono ?_; rintro e w1 ⟨v1, rfl, ho, hb⟩; rw [HEL.out] at ho; obtain ⟨A1, c1, rfl, hc1, hr1, _⟩ := own_rc ho; have HR1 := Hd.mk hr1; have HC1 := Hd.mk hc1; have K3 := Hd.mk (K3.out.below hb K3.out.lt); have HB := Hd.mk (below_then HB.out HB.out.size hb); clear ho hb hr1 hc1)
          | (go_at_call 24; clear T2; refine (decode_any A1 0 c1 E _ HR1.out HEL.out.symm (by have := HEL.out; have := HC1.out; omega) (by have := HEL.out; omega)).mono ?_; rintro e w2 ⟨rfl, hb⟩; rw [HD1.out.1, HD1.out.2]; have K3 := Hd.mk (K3.out.below hb K3.out.lt); have HB := Hd.mk (below_then HB.out HB.out.size hb); clear hb)
          | (refine wpList_store_row rfl 24 (.tmp 9) (.tmp 36) rfl w2.heap.size (ns zeroI).toArray rfl rfl 24 _ (Blk.new w2 24 (ns zeroI)) (ten_size rfl) (ten_same rfl) (ten_one zeroI) ?_
             have K9 := Hd.mk ((Blk.new w2 24 (ns zeroI)).putRow (ns zeroI))
             have K3 := Hd.mk ((K3.out.alloc (.cells (ns zeroI).toArray 24)).rowFar (g := w2.heap.size) (by have := K3.out.lt; omega) (ns zeroI).toArray)
             have HB := Hd.mk (below_row (HB.out.alloc HB.out.size (.cells (ns zeroI).toArray 24)) HB.out.size (ns zeroI).toArray))
          | (go_at_call 12; clear T3; refine (HRX.out _).mono ?_; rintro e w3 ⟨rfl, hb⟩; have K3 := Hd.mk (K3.out.below hb K3.out.lt); have HB := Hd.mk (below_then HB.out HB.out.size hb); clear hb)
          | (go_at_call 21; refine (index_any A _ c l F _ _ (HL.out.below HB.out) rfl (by have := HN64.out; omega) HFI.out).mono ?_; rintro e w4 ⟨v4, rfl, ho, hb⟩; obtain ⟨A4, c4, rfl, hc4, hr4, _⟩ := own_rc ho; have HR4 := Hd.mk hr4; have HC4 := Hd.mk hc4; have HB := Hd.mk (below_then HB.out HB.out.size hb); clear ho hb hr4 hc4)
          | (go_at_call 26; refine (pointers_any A4 _ c4 F Y _ _ HR4.out rfl HC4.out (by have := HFL.out; omega) HFP.out).mono ?_; rintro e w5 ⟨v5, rfl, ho, hb⟩; rw [HYL.out] at ho; obtain ⟨A5, c5, rfl, hc5, hr5, _⟩ := own_rc ho; have hcut := cut_high (P := Try.prog) 43 3 Try.underlying43 info_int A5 64 c5 l.length (by have := HN64.out; omega); have HR5 : Hd (Rc w5 A5 (ns l)) := ⟨by rw [← HYT.out]; exact hr5.take _⟩; have HB := Hd.mk (below_then HB.out HB.out.size hb); clear ho hb hr5)
          | (go_at_call 28; refine (ints_any A5 A _ _ c5 c l l _ HR5.out (HL.out.below HB.out) (by have := HN64.out; omega) rfl rfl).mono ?_; rintro e w6 ⟨rfl, hdr⟩; rw [show (l == l) = true by simp]; have HB := Hd.mk (below_then HB.out HB.out.size (hdr.below _)); clear hdr)
          | (go_at_call 24; clear T4; refine (decode_any B _ d b _ (HBB.out.below HB.out) rfl HD.out (by have := HB400.out; omega)).mono ?_; rintro e w7 ⟨rfl, hb⟩; rw [HD2.out.1, HD2.out.2]; have HB := Hd.mk (below_then HB.out HB.out.size hb); clear hb)
          | (refine wpList_store_row rfl 24 (.tmp 15) (.tmp 92) rfl w7.heap.size (ns zeroI).toArray rfl rfl 24 _ (Blk.new w7 24 (ns zeroI)) (ten_size HZL.out) (ten_same HZL.out) (ten_one zeroI) ?_
             have K15 := Hd.mk ((Blk.new w7 24 (ns zeroI)).putRow (ns zeroI))
             have HB := Hd.mk (below_row (HB.out.alloc HB.out.size (.cells (ns zeroI).toArray 24)) HB.out.size (ns zeroI).toArray))
          | (refine wpList_load_row_w rfl 24 (.tmp 15) rfl _ rfl 24 (ns zeroI).toArray (0, 0) _ K15.out Try.underlying24 rfl (ten_size HZL.out) ?_)
          | (refine wpList_eql_w true rfl 24 _ (.tmp 96) (.tmp 97) rfl (ns zeroI).toArray (ns zeroI).toArray rfl rfl (by kernel_rfl) (HZS.out _) ?_)
          | (go_at_call 13; refine (known_calls _).mono ?_; rintro e w11 ⟨rfl, hb⟩; have HB := Hd.mk (below_then HB.out HB.out.size hb); clear hb))
        go_ret
        exact ⟨rfl, HB.out⟩
      · obtain ⟨E, hE⟩ : ∃ E : List UInt8, [] = E := ⟨_, rfl⟩
        have HE := enc_is xs hx ⟨(show encB xs = [] by unfold encB; rw [h1]; rfl).trans hE, show encE xs = 2 by unfold encE; rw [h1]; rfl⟩
        have HD1 : Hd (decX E = zeroI ∧ decE E = 4) := ⟨dec_no (decP_len (by rw [← hE]; simp))⟩
        have HEL : Hd (E.length = 0) := ⟨by rw [← hE]; rfl⟩
        have HRX := right_c xs hx h1
        clear hE
        have HFI : Hd (idxB l = F ∧ idxE l = 0) := ⟨hF, (idx_yes h2).2⟩
        obtain ⟨Y, hY⟩ : ∃ Y, ptsL F = Y := ⟨_, rfl⟩
        have hpi := pts_idx h2
        rw [hF] at hpi
        have HFP : Hd (ptsL F = Y ∧ ptsE F = 0) := ⟨hY, hpi.2⟩
        have HYL : Hd (Y.length = 64) := ⟨by rw [← hY, hpi.1, List.length_append, List.length_replicate]; have := HN64.out; omega⟩
        have HYT : Hd ((ns Y).take l.length = ns l) := ⟨by rw [← hY, hpi.1, ns, ← List.map_take, List.take_left' rfl]⟩
        clear hY hpi
        obtain ⟨Z, hZ⟩ : ∃ Z, decL b = Z := ⟨_, rfl⟩
        have hZl : Z.length = 10 := by rw [← hZ]; exact decK_len b 10
        have HD2 : Hd (decX b = Z ∧ decE b = 0) := ⟨by rw [← hZ]; exact dec_yes h3⟩
        have h4 : rightB Z = true ∧ encB Z = b := by
          unfold decP at h3
          rw [Bool.and_eq_true, Bool.and_eq_true, beq_iff_eq, hZ] at h3
          exact ⟨h3.1.2, h3.2.symm⟩
        have HZE := enc_is Z hZl ⟨h4.2, show encE Z = 0 by unfold encE; rw [h4.1]; rfl⟩
        have HZR := right_c Z hZl h4.1
        have HZL := Hd.mk hZl
        clear hZ hZl h4
        clear h1 h2 h3 hF hx
        have T1 : Hd True := ⟨trivial⟩
        have T2 : Hd True := ⟨trivial⟩
        have T3 : Hd True := ⟨trivial⟩
        have T4 : Hd True := ⟨trivial⟩
        have T5 : Hd True := ⟨trivial⟩
        have T6 : Hd True := ⟨trivial⟩
        go_enter Try.func9, Try.ntmps9
        go_wp2_with (first
          | (refine wpList_load_row_w rfl 24 (.tmp 3) rfl w.heap.size rfl 24 _ (0, 0) _ K3.out Try.underlying24 rfl (ten_size HX.out) ?_)
          | (go_at_call 11; clear T1; refine (HE.out _).mono ?_; rintro e w1 ⟨v1, rfl, ho, hb⟩; rw [HEL.out] at ho; obtain ⟨A1, c1, rfl, hc1, hr1, _⟩ := own_rc ho; have HR1 := Hd.mk hr1; have HC1 := Hd.mk hc1; have K3 := Hd.mk (K3.out.below hb K3.out.lt); have HB := Hd.mk (below_then HB.out HB.out.size hb); clear ho hb hr1 hc1)
          | (go_at_call 24; clear T2; refine (decode_any A1 0 c1 E _ HR1.out HEL.out.symm (by have := HEL.out; have := HC1.out; omega) (by have := HEL.out; omega)).mono ?_; rintro e w2 ⟨rfl, hb⟩; rw [HD1.out.1, HD1.out.2]; have K3 := Hd.mk (K3.out.below hb K3.out.lt); have HB := Hd.mk (below_then HB.out HB.out.size hb); clear hb)
          | (refine wpList_store_row rfl 24 (.tmp 9) (.tmp 36) rfl w2.heap.size (ns zeroI).toArray rfl rfl 24 _ (Blk.new w2 24 (ns zeroI)) (ten_size rfl) (ten_same rfl) (ten_one zeroI) ?_
             have K9 := Hd.mk ((Blk.new w2 24 (ns zeroI)).putRow (ns zeroI))
             have K3 := Hd.mk ((K3.out.alloc (.cells (ns zeroI).toArray 24)).rowFar (g := w2.heap.size) (by have := K3.out.lt; omega) (ns zeroI).toArray)
             have HB := Hd.mk (below_row (HB.out.alloc HB.out.size (.cells (ns zeroI).toArray 24)) HB.out.size (ns zeroI).toArray))
          | (go_at_call 12; clear T3; refine (HRX.out _).mono ?_; rintro e w3 ⟨rfl, hb⟩; have K3 := Hd.mk (K3.out.below hb K3.out.lt); have HB := Hd.mk (below_then HB.out HB.out.size hb); clear hb)
          | (go_at_call 21; refine (index_any A _ c l F _ _ (HL.out.below HB.out) rfl (by have := HN64.out; omega) HFI.out).mono ?_; rintro e w4 ⟨v4, rfl, ho, hb⟩; obtain ⟨A4, c4, rfl, hc4, hr4, _⟩ := own_rc ho; have HR4 := Hd.mk hr4; have HC4 := Hd.mk hc4; have HB := Hd.mk (below_then HB.out HB.out.size hb); clear ho hb hr4 hc4)
          | (go_at_call 26; refine (pointers_any A4 _ c4 F Y _ _ HR4.out rfl HC4.out (by have := HFL.out; omega) HFP.out).mono ?_; rintro e w5 ⟨v5, rfl, ho, hb⟩; rw [HYL.out] at ho; obtain ⟨A5, c5, rfl, hc5, hr5, _⟩ := own_rc ho; have hcut := cut_high (P := Try.prog) 43 3 Try.underlying43 info_int A5 64 c5 l.length (by have := HN64.out; omega); have HR5 : Hd (Rc w5 A5 (ns l)) := ⟨by rw [← HYT.out]; exact hr5.take _⟩; have HB := Hd.mk (below_then HB.out HB.out.size hb); clear ho hb hr5)
          | (go_at_call 28; refine (ints_any A5 A _ _ c5 c l l _ HR5.out (HL.out.below HB.out) (by have := HN64.out; omega) rfl rfl).mono ?_; rintro e w6 ⟨rfl, hdr⟩; rw [show (l == l) = true by simp]; have HB := Hd.mk (below_then HB.out HB.out.size (hdr.below _)); clear hdr)
          | (go_at_call 24; clear T4; refine (decode_any B _ d b _ (HBB.out.below HB.out) rfl HD.out (by have := HB400.out; omega)).mono ?_; rintro e w7 ⟨rfl, hb⟩; rw [HD2.out.1, HD2.out.2]; have HB := Hd.mk (below_then HB.out HB.out.size hb); clear hb)
          | (refine wpList_store_row rfl 24 (.tmp 15) (.tmp 92) rfl w7.heap.size (ns Z).toArray rfl rfl 24 _ (Blk.new w7 24 (ns zeroI)) (ten_size HZL.out) (ten_same HZL.out) (ten_one Z) ?_
             have K15 := Hd.mk ((Blk.new w7 24 (ns zeroI)).putRow (ns Z))
             have HB := Hd.mk (below_row (HB.out.alloc HB.out.size (.cells (ns zeroI).toArray 24)) HB.out.size (ns Z).toArray))
          | (refine wpList_load_row_w rfl 24 (.tmp 15) rfl _ rfl 24 (ns Z).toArray (0, 0) _ K15.out Try.underlying24 rfl (ten_size HZL.out) ?_)
          | (go_at_call 11; clear T5; refine (HZE.out _).mono ?_; rintro e w8 ⟨v8, rfl, ho, hb⟩; obtain ⟨A8, c8, rfl, hc8, hr8, _⟩ := own_rc ho; have HR8 := Hd.mk hr8; have K15 := Hd.mk (K15.out.below hb K15.out.lt); have HB := Hd.mk (below_then HB.out HB.out.size hb); clear ho hb hr8)
          | (go_at_call 12; clear T6; refine (HZR.out _).mono ?_; rintro e w9 ⟨rfl, hb⟩; have HR8 := Hd.mk (HR8.out.below hb); have HB := Hd.mk (below_then HB.out HB.out.size hb); clear hb)
          | (go_at_call 14; refine (same_any A8 B _ _ c8 d b b _ HR8.out (HBB.out.below HB.out) rfl rfl).mono ?_; rintro e w10 ⟨rfl, rfl⟩; rw [show (b == b) = true by simp])
          | (go_at_call 13; refine (known_calls _).mono ?_; rintro e w11 ⟨rfl, hb⟩; have HB := Hd.mk (below_then HB.out HB.out.size hb); clear hb))
        go_ret
        exact ⟨rfl, HB.out⟩
  · cases h2 : idxP l
    · cases h3 : decP b
      · obtain ⟨E, hE⟩ : ∃ E, encB xs = E := ⟨_, rfl⟩
        have HE := enc_is xs hx ⟨hE, show encE xs = 0 by unfold encE; rw [h1]; rfl⟩
        have hdx := decX_enc hx h1
        have hel := encB_len h1
        rw [hE] at hdx hel
        have HD1 := Hd.mk hdx
        have HEL := Hd.mk hel
        have HRX := right_c xs hx h1
        clear hE hdx hel
        have HFI : Hd (idxB l = F ∧ idxE l = 2) := ⟨hF, (idx_no h2).2⟩
        obtain ⟨Y, hY⟩ : ∃ Y, ptsL F = Y := ⟨_, rfl⟩
        obtain ⟨pe, hpe⟩ : ∃ pe, ptsE F = pe := ⟨_, rfl⟩
        have HFP := Hd.mk (And.intro hY hpe)
        clear hY hpe
        have HD2 := Hd.mk (dec_no h3)
        have HZL : Hd (zeroI.length = 10) := ⟨rfl⟩
        clear h1 h2 h3 hF hx
        have T1 : Hd True := ⟨trivial⟩
        have T2 : Hd True := ⟨trivial⟩
        have T3 : Hd True := ⟨trivial⟩
        have T4 : Hd True := ⟨trivial⟩
        have T5 : Hd True := ⟨trivial⟩
        have T6 : Hd True := ⟨trivial⟩
        go_enter Try.func9, Try.ntmps9
        go_wp2_with (first
          | (refine wpList_load_row_w rfl 24 (.tmp 3) rfl w.heap.size rfl 24 _ (0, 0) _ K3.out Try.underlying24 rfl (ten_size HX.out) ?_)
          | (go_at_call 11; clear T1; refine (HE.out _).mono ?_; rintro e w1 ⟨v1, rfl, ho, hb⟩; rw [HEL.out] at ho; obtain ⟨A1, c1, rfl, hc1, hr1, _⟩ := own_rc ho; have HR1 := Hd.mk hr1; have HC1 := Hd.mk hc1; have K3 := Hd.mk (K3.out.below hb K3.out.lt); have HB := Hd.mk (below_then HB.out HB.out.size hb); clear ho hb hr1 hc1)
          | (go_at_call 24; clear T2; refine (decode_any A1 64 c1 E _ HR1.out HEL.out.symm (by have := HEL.out; have := HC1.out; omega) (by have := HEL.out; omega)).mono ?_; rintro e w2 ⟨rfl, hb⟩; rw [HD1.out.1, HD1.out.2]; have K3 := Hd.mk (K3.out.below hb K3.out.lt); have HB := Hd.mk (below_then HB.out HB.out.size hb); clear hb)
          | (refine wpList_store_row rfl 24 (.tmp 9) (.tmp 36) rfl w2.heap.size (ns xs).toArray rfl rfl 24 _ (Blk.new w2 24 (ns zeroI)) (ten_size HX.out) (ten_same HX.out) (ten_one xs) ?_
             have K9 := Hd.mk ((Blk.new w2 24 (ns zeroI)).putRow (ns xs))
             have K3 := Hd.mk ((K3.out.alloc (.cells (ns zeroI).toArray 24)).rowFar (g := w2.heap.size) (by have := K3.out.lt; omega) (ns xs).toArray)
             have HB := Hd.mk (below_row (HB.out.alloc HB.out.size (.cells (ns zeroI).toArray 24)) HB.out.size (ns xs).toArray))
          | (refine wpList_load_row_w rfl 24 (.tmp 9) rfl _ rfl 24 (ns xs).toArray (0, 0) _ K9.out Try.underlying24 rfl (ten_size HX.out) ?_)
          | (refine wpList_neq_w true rfl 24 _ (.tmp 44) (.tmp 45) rfl (ns xs).toArray (ns xs).toArray rfl rfl (by kernel_rfl) (HXS.out _) ?_)
          | (go_at_call 12; clear T3; refine (HRX.out _).mono ?_; rintro e w3 ⟨rfl, hb⟩; have K3 := Hd.mk (K3.out.below hb K3.out.lt); have HB := Hd.mk (below_then HB.out HB.out.size hb); clear hb)
          | (go_at_call 21; refine (index_any A _ c l F _ _ (HL.out.below HB.out) rfl (by have := HN64.out; omega) HFI.out).mono ?_; rintro e w4 ⟨v4, rfl, ho, hb⟩; obtain ⟨A4, c4, rfl, hc4, hr4, _⟩ := own_rc ho; have HR4 := Hd.mk hr4; have HC4 := Hd.mk hc4; have HB := Hd.mk (below_then HB.out HB.out.size hb); clear ho hb hr4 hc4)
          | (go_at_call 26; refine (pointers_any A4 _ c4 F Y _ _ HR4.out rfl HC4.out (by have := HFL.out; omega) HFP.out).mono ?_; rintro e w5 ⟨v5, rfl, ho, hb⟩; have HB := Hd.mk (below_then HB.out HB.out.size hb); clear ho hb)
          | (go_at_call 24; clear T4; refine (decode_any B _ d b _ (HBB.out.below HB.out) rfl HD.out (by have := HB400.out; omega)).mono ?_; rintro e w7 ⟨rfl, hb⟩; rw [HD2.out.1, HD2.out.2]; have HB := Hd.mk (below_then HB.out HB.out.size hb); clear hb)
          | (refine wpList_store_row rfl 24 (.tmp 15) (.tmp 92) rfl w7.heap.size (ns zeroI).toArray rfl rfl 24 _ (Blk.new w7 24 (ns zeroI)) (ten_size HZL.out) (ten_same HZL.out) (ten_one zeroI) ?_
             have K15 := Hd.mk ((Blk.new w7 24 (ns zeroI)).putRow (ns zeroI))
             have HB := Hd.mk (below_row (HB.out.alloc HB.out.size (.cells (ns zeroI).toArray 24)) HB.out.size (ns zeroI).toArray))
          | (refine wpList_load_row_w rfl 24 (.tmp 15) rfl _ rfl 24 (ns zeroI).toArray (0, 0) _ K15.out Try.underlying24 rfl (ten_size HZL.out) ?_)
          | (refine wpList_eql_w true rfl 24 _ (.tmp 96) (.tmp 97) rfl (ns zeroI).toArray (ns zeroI).toArray rfl rfl (by kernel_rfl) (HZS.out _) ?_)
          | (go_at_call 13; refine (known_calls _).mono ?_; rintro e w11 ⟨rfl, hb⟩; have HB := Hd.mk (below_then HB.out HB.out.size hb); clear hb))
        go_ret
        exact ⟨rfl, HB.out⟩
      · obtain ⟨E, hE⟩ : ∃ E, encB xs = E := ⟨_, rfl⟩
        have HE := enc_is xs hx ⟨hE, show encE xs = 0 by unfold encE; rw [h1]; rfl⟩
        have hdx := decX_enc hx h1
        have hel := encB_len h1
        rw [hE] at hdx hel
        have HD1 := Hd.mk hdx
        have HEL := Hd.mk hel
        have HRX := right_c xs hx h1
        clear hE hdx hel
        have HFI : Hd (idxB l = F ∧ idxE l = 2) := ⟨hF, (idx_no h2).2⟩
        obtain ⟨Y, hY⟩ : ∃ Y, ptsL F = Y := ⟨_, rfl⟩
        obtain ⟨pe, hpe⟩ : ∃ pe, ptsE F = pe := ⟨_, rfl⟩
        have HFP := Hd.mk (And.intro hY hpe)
        clear hY hpe
        obtain ⟨Z, hZ⟩ : ∃ Z, decL b = Z := ⟨_, rfl⟩
        have hZl : Z.length = 10 := by rw [← hZ]; exact decK_len b 10
        have HD2 : Hd (decX b = Z ∧ decE b = 0) := ⟨by rw [← hZ]; exact dec_yes h3⟩
        have h4 : rightB Z = true ∧ encB Z = b := by
          unfold decP at h3
          rw [Bool.and_eq_true, Bool.and_eq_true, beq_iff_eq, hZ] at h3
          exact ⟨h3.1.2, h3.2.symm⟩
        have HZE := enc_is Z hZl ⟨h4.2, show encE Z = 0 by unfold encE; rw [h4.1]; rfl⟩
        have HZR := right_c Z hZl h4.1
        have HZL := Hd.mk hZl
        clear hZ hZl h4
        clear h1 h2 h3 hF hx
        have T1 : Hd True := ⟨trivial⟩
        have T2 : Hd True := ⟨trivial⟩
        have T3 : Hd True := ⟨trivial⟩
        have T4 : Hd True := ⟨trivial⟩
        have T5 : Hd True := ⟨trivial⟩
        have T6 : Hd True := ⟨trivial⟩
        go_enter Try.func9, Try.ntmps9
        go_wp2_with (first
          | (refine wpList_load_row_w rfl 24 (.tmp 3) rfl w.heap.size rfl 24 _ (0, 0) _ K3.out Try.underlying24 rfl (ten_size HX.out) ?_)
          | (go_at_call 11; clear T1; refine (HE.out _).mono ?_; rintro e w1 ⟨v1, rfl, ho, hb⟩; rw [HEL.out] at ho; obtain ⟨A1, c1, rfl, hc1, hr1, _⟩ := own_rc ho; have HR1 := Hd.mk hr1; have HC1 := Hd.mk hc1; have K3 := Hd.mk (K3.out.below hb K3.out.lt); have HB := Hd.mk (below_then HB.out HB.out.size hb); clear ho hb hr1 hc1)
          | (go_at_call 24; clear T2; refine (decode_any A1 64 c1 E _ HR1.out HEL.out.symm (by have := HEL.out; have := HC1.out; omega) (by have := HEL.out; omega)).mono ?_; rintro e w2 ⟨rfl, hb⟩; rw [HD1.out.1, HD1.out.2]; have K3 := Hd.mk (K3.out.below hb K3.out.lt); have HB := Hd.mk (below_then HB.out HB.out.size hb); clear hb)
          | (refine wpList_store_row rfl 24 (.tmp 9) (.tmp 36) rfl w2.heap.size (ns xs).toArray rfl rfl 24 _ (Blk.new w2 24 (ns zeroI)) (ten_size HX.out) (ten_same HX.out) (ten_one xs) ?_
             have K9 := Hd.mk ((Blk.new w2 24 (ns zeroI)).putRow (ns xs))
             have K3 := Hd.mk ((K3.out.alloc (.cells (ns zeroI).toArray 24)).rowFar (g := w2.heap.size) (by have := K3.out.lt; omega) (ns xs).toArray)
             have HB := Hd.mk (below_row (HB.out.alloc HB.out.size (.cells (ns zeroI).toArray 24)) HB.out.size (ns xs).toArray))
          | (refine wpList_load_row_w rfl 24 (.tmp 9) rfl _ rfl 24 (ns xs).toArray (0, 0) _ K9.out Try.underlying24 rfl (ten_size HX.out) ?_)
          | (refine wpList_neq_w true rfl 24 _ (.tmp 44) (.tmp 45) rfl (ns xs).toArray (ns xs).toArray rfl rfl (by kernel_rfl) (HXS.out _) ?_)
          | (go_at_call 12; clear T3; refine (HRX.out _).mono ?_; rintro e w3 ⟨rfl, hb⟩; have K3 := Hd.mk (K3.out.below hb K3.out.lt); have HB := Hd.mk (below_then HB.out HB.out.size hb); clear hb)
          | (go_at_call 21; refine (index_any A _ c l F _ _ (HL.out.below HB.out) rfl (by have := HN64.out; omega) HFI.out).mono ?_; rintro e w4 ⟨v4, rfl, ho, hb⟩; obtain ⟨A4, c4, rfl, hc4, hr4, _⟩ := own_rc ho; have HR4 := Hd.mk hr4; have HC4 := Hd.mk hc4; have HB := Hd.mk (below_then HB.out HB.out.size hb); clear ho hb hr4 hc4)
          | (go_at_call 26; refine (pointers_any A4 _ c4 F Y _ _ HR4.out rfl HC4.out (by have := HFL.out; omega) HFP.out).mono ?_; rintro e w5 ⟨v5, rfl, ho, hb⟩; have HB := Hd.mk (below_then HB.out HB.out.size hb); clear ho hb)
          | (go_at_call 24; clear T4; refine (decode_any B _ d b _ (HBB.out.below HB.out) rfl HD.out (by have := HB400.out; omega)).mono ?_; rintro e w7 ⟨rfl, hb⟩; rw [HD2.out.1, HD2.out.2]; have HB := Hd.mk (below_then HB.out HB.out.size hb); clear hb)
          | (refine wpList_store_row rfl 24 (.tmp 15) (.tmp 92) rfl w7.heap.size (ns Z).toArray rfl rfl 24 _ (Blk.new w7 24 (ns zeroI)) (ten_size HZL.out) (ten_same HZL.out) (ten_one Z) ?_
             have K15 := Hd.mk ((Blk.new w7 24 (ns zeroI)).putRow (ns Z))
             have HB := Hd.mk (below_row (HB.out.alloc HB.out.size (.cells (ns zeroI).toArray 24)) HB.out.size (ns Z).toArray))
          | (refine wpList_load_row_w rfl 24 (.tmp 15) rfl _ rfl 24 (ns Z).toArray (0, 0) _ K15.out Try.underlying24 rfl (ten_size HZL.out) ?_)
          | (go_at_call 11; clear T5; refine (HZE.out _).mono ?_; rintro e w8 ⟨v8, rfl, ho, hb⟩; obtain ⟨A8, c8, rfl, hc8, hr8, _⟩ := own_rc ho; have HR8 := Hd.mk hr8; have K15 := Hd.mk (K15.out.below hb K15.out.lt); have HB := Hd.mk (below_then HB.out HB.out.size hb); clear ho hb hr8)
          | (go_at_call 12; clear T6; refine (HZR.out _).mono ?_; rintro e w9 ⟨rfl, hb⟩; have HR8 := Hd.mk (HR8.out.below hb); have HB := Hd.mk (below_then HB.out HB.out.size hb); clear hb)
          | (go_at_call 14; refine (same_any A8 B _ _ c8 d b b _ HR8.out (HBB.out.below HB.out) rfl rfl).mono ?_; rintro e w10 ⟨rfl, rfl⟩; rw [show (b == b) = true by simp])
          | (go_at_call 13; refine (known_calls _).mono ?_; rintro e w11 ⟨rfl, hb⟩; have HB := Hd.mk (below_then HB.out HB.out.size hb); clear hb))
        go_ret
        exact ⟨rfl, HB.out⟩
    · cases h3 : decP b
      · obtain ⟨E, hE⟩ : ∃ E, encB xs = E := ⟨_, rfl⟩
        have HE := enc_is xs hx ⟨hE, show encE xs = 0 by unfold encE; rw [h1]; rfl⟩
        have hdx := decX_enc hx h1
        have hel := encB_len h1
        rw [hE] at hdx hel
        have HD1 := Hd.mk hdx
        have HEL := Hd.mk hel
        have HRX := right_c xs hx h1
        clear hE hdx hel
        have HFI : Hd (idxB l = F ∧ idxE l = 0) := ⟨hF, (idx_yes h2).2⟩
        obtain ⟨Y, hY⟩ : ∃ Y, ptsL F = Y := ⟨_, rfl⟩
        have hpi := pts_idx h2
        rw [hF] at hpi
        have HFP : Hd (ptsL F = Y ∧ ptsE F = 0) := ⟨hY, hpi.2⟩
        have HYL : Hd (Y.length = 64) := ⟨by rw [← hY, hpi.1, List.length_append, List.length_replicate]; have := HN64.out; omega⟩
        have HYT : Hd ((ns Y).take l.length = ns l) := ⟨by rw [← hY, hpi.1, ns, ← List.map_take, List.take_left' rfl]⟩
        clear hY hpi
        have HD2 := Hd.mk (dec_no h3)
        have HZL : Hd (zeroI.length = 10) := ⟨rfl⟩
        clear h1 h2 h3 hF hx
        have T1 : Hd True := ⟨trivial⟩
        have T2 : Hd True := ⟨trivial⟩
        have T3 : Hd True := ⟨trivial⟩
        have T4 : Hd True := ⟨trivial⟩
        have T5 : Hd True := ⟨trivial⟩
        have T6 : Hd True := ⟨trivial⟩
        go_enter Try.func9, Try.ntmps9
        go_wp2_with (first
          | (refine wpList_load_row_w rfl 24 (.tmp 3) rfl w.heap.size rfl 24 _ (0, 0) _ K3.out Try.underlying24 rfl (ten_size HX.out) ?_)
          | (go_at_call 11; clear T1; refine (HE.out _).mono ?_; rintro e w1 ⟨v1, rfl, ho, hb⟩; rw [HEL.out] at ho; obtain ⟨A1, c1, rfl, hc1, hr1, _⟩ := own_rc ho; have HR1 := Hd.mk hr1; have HC1 := Hd.mk hc1; have K3 := Hd.mk (K3.out.below hb K3.out.lt); have HB := Hd.mk (below_then HB.out HB.out.size hb); clear ho hb hr1 hc1)
          | (go_at_call 24; clear T2; refine (decode_any A1 64 c1 E _ HR1.out HEL.out.symm (by have := HEL.out; have := HC1.out; omega) (by have := HEL.out; omega)).mono ?_; rintro e w2 ⟨rfl, hb⟩; rw [HD1.out.1, HD1.out.2]; have K3 := Hd.mk (K3.out.below hb K3.out.lt); have HB := Hd.mk (below_then HB.out HB.out.size hb); clear hb)
          | (refine wpList_store_row rfl 24 (.tmp 9) (.tmp 36) rfl w2.heap.size (ns xs).toArray rfl rfl 24 _ (Blk.new w2 24 (ns zeroI)) (ten_size HX.out) (ten_same HX.out) (ten_one xs) ?_
             have K9 := Hd.mk ((Blk.new w2 24 (ns zeroI)).putRow (ns xs))
             have K3 := Hd.mk ((K3.out.alloc (.cells (ns zeroI).toArray 24)).rowFar (g := w2.heap.size) (by have := K3.out.lt; omega) (ns xs).toArray)
             have HB := Hd.mk (below_row (HB.out.alloc HB.out.size (.cells (ns zeroI).toArray 24)) HB.out.size (ns xs).toArray))
          | (refine wpList_load_row_w rfl 24 (.tmp 9) rfl _ rfl 24 (ns xs).toArray (0, 0) _ K9.out Try.underlying24 rfl (ten_size HX.out) ?_)
          | (refine wpList_neq_w true rfl 24 _ (.tmp 44) (.tmp 45) rfl (ns xs).toArray (ns xs).toArray rfl rfl (by kernel_rfl) (HXS.out _) ?_)
          | (go_at_call 12; clear T3; refine (HRX.out _).mono ?_; rintro e w3 ⟨rfl, hb⟩; have K3 := Hd.mk (K3.out.below hb K3.out.lt); have HB := Hd.mk (below_then HB.out HB.out.size hb); clear hb)
          | (go_at_call 21; refine (index_any A _ c l F _ _ (HL.out.below HB.out) rfl (by have := HN64.out; omega) HFI.out).mono ?_; rintro e w4 ⟨v4, rfl, ho, hb⟩; obtain ⟨A4, c4, rfl, hc4, hr4, _⟩ := own_rc ho; have HR4 := Hd.mk hr4; have HC4 := Hd.mk hc4; have HB := Hd.mk (below_then HB.out HB.out.size hb); clear ho hb hr4 hc4)
          | (go_at_call 26; refine (pointers_any A4 _ c4 F Y _ _ HR4.out rfl HC4.out (by have := HFL.out; omega) HFP.out).mono ?_; rintro e w5 ⟨v5, rfl, ho, hb⟩; rw [HYL.out] at ho; obtain ⟨A5, c5, rfl, hc5, hr5, _⟩ := own_rc ho; have hcut := cut_high (P := Try.prog) 43 3 Try.underlying43 info_int A5 64 c5 l.length (by have := HN64.out; omega); have HR5 : Hd (Rc w5 A5 (ns l)) := ⟨by rw [← HYT.out]; exact hr5.take _⟩; have HB := Hd.mk (below_then HB.out HB.out.size hb); clear ho hb hr5)
          | (go_at_call 28; refine (ints_any A5 A _ _ c5 c l l _ HR5.out (HL.out.below HB.out) (by have := HN64.out; omega) rfl rfl).mono ?_; rintro e w6 ⟨rfl, hdr⟩; rw [show (l == l) = true by simp]; have HB := Hd.mk (below_then HB.out HB.out.size (hdr.below _)); clear hdr)
          | (go_at_call 24; clear T4; refine (decode_any B _ d b _ (HBB.out.below HB.out) rfl HD.out (by have := HB400.out; omega)).mono ?_; rintro e w7 ⟨rfl, hb⟩; rw [HD2.out.1, HD2.out.2]; have HB := Hd.mk (below_then HB.out HB.out.size hb); clear hb)
          | (refine wpList_store_row rfl 24 (.tmp 15) (.tmp 92) rfl w7.heap.size (ns zeroI).toArray rfl rfl 24 _ (Blk.new w7 24 (ns zeroI)) (ten_size HZL.out) (ten_same HZL.out) (ten_one zeroI) ?_
             have K15 := Hd.mk ((Blk.new w7 24 (ns zeroI)).putRow (ns zeroI))
             have HB := Hd.mk (below_row (HB.out.alloc HB.out.size (.cells (ns zeroI).toArray 24)) HB.out.size (ns zeroI).toArray))
          | (refine wpList_load_row_w rfl 24 (.tmp 15) rfl _ rfl 24 (ns zeroI).toArray (0, 0) _ K15.out Try.underlying24 rfl (ten_size HZL.out) ?_)
          | (refine wpList_eql_w true rfl 24 _ (.tmp 96) (.tmp 97) rfl (ns zeroI).toArray (ns zeroI).toArray rfl rfl (by kernel_rfl) (HZS.out _) ?_)
          | (go_at_call 13; refine (known_calls _).mono ?_; rintro e w11 ⟨rfl, hb⟩; have HB := Hd.mk (below_then HB.out HB.out.size hb); clear hb))
        go_ret
        exact ⟨rfl, HB.out⟩
      · obtain ⟨E, hE⟩ : ∃ E, encB xs = E := ⟨_, rfl⟩
        have HE := enc_is xs hx ⟨hE, show encE xs = 0 by unfold encE; rw [h1]; rfl⟩
        have hdx := decX_enc hx h1
        have hel := encB_len h1
        rw [hE] at hdx hel
        have HD1 := Hd.mk hdx
        have HEL := Hd.mk hel
        have HRX := right_c xs hx h1
        clear hE hdx hel
        have HFI : Hd (idxB l = F ∧ idxE l = 0) := ⟨hF, (idx_yes h2).2⟩
        obtain ⟨Y, hY⟩ : ∃ Y, ptsL F = Y := ⟨_, rfl⟩
        have hpi := pts_idx h2
        rw [hF] at hpi
        have HFP : Hd (ptsL F = Y ∧ ptsE F = 0) := ⟨hY, hpi.2⟩
        have HYL : Hd (Y.length = 64) := ⟨by rw [← hY, hpi.1, List.length_append, List.length_replicate]; have := HN64.out; omega⟩
        have HYT : Hd ((ns Y).take l.length = ns l) := ⟨by rw [← hY, hpi.1, ns, ← List.map_take, List.take_left' rfl]⟩
        clear hY hpi
        obtain ⟨Z, hZ⟩ : ∃ Z, decL b = Z := ⟨_, rfl⟩
        have hZl : Z.length = 10 := by rw [← hZ]; exact decK_len b 10
        have HD2 : Hd (decX b = Z ∧ decE b = 0) := ⟨by rw [← hZ]; exact dec_yes h3⟩
        have h4 : rightB Z = true ∧ encB Z = b := by
          unfold decP at h3
          rw [Bool.and_eq_true, Bool.and_eq_true, beq_iff_eq, hZ] at h3
          exact ⟨h3.1.2, h3.2.symm⟩
        have HZE := enc_is Z hZl ⟨h4.2, show encE Z = 0 by unfold encE; rw [h4.1]; rfl⟩
        have HZR := right_c Z hZl h4.1
        have HZL := Hd.mk hZl
        clear hZ hZl h4
        clear h1 h2 h3 hF hx
        have T1 : Hd True := ⟨trivial⟩
        have T2 : Hd True := ⟨trivial⟩
        have T3 : Hd True := ⟨trivial⟩
        have T4 : Hd True := ⟨trivial⟩
        have T5 : Hd True := ⟨trivial⟩
        have T6 : Hd True := ⟨trivial⟩
        go_enter Try.func9, Try.ntmps9
        go_wp2_with (first
          | (refine wpList_load_row_w rfl 24 (.tmp 3) rfl w.heap.size rfl 24 _ (0, 0) _ K3.out Try.underlying24 rfl (ten_size HX.out) ?_)
          | (go_at_call 11; clear T1; refine (HE.out _).mono ?_; rintro e w1 ⟨v1, rfl, ho, hb⟩; rw [HEL.out] at ho; obtain ⟨A1, c1, rfl, hc1, hr1, _⟩ := own_rc ho; have HR1 := Hd.mk hr1; have HC1 := Hd.mk hc1; have K3 := Hd.mk (K3.out.below hb K3.out.lt); have HB := Hd.mk (below_then HB.out HB.out.size hb); clear ho hb hr1 hc1)
          | (go_at_call 24; clear T2; refine (decode_any A1 64 c1 E _ HR1.out HEL.out.symm (by have := HEL.out; have := HC1.out; omega) (by have := HEL.out; omega)).mono ?_; rintro e w2 ⟨rfl, hb⟩; rw [HD1.out.1, HD1.out.2]; have K3 := Hd.mk (K3.out.below hb K3.out.lt); have HB := Hd.mk (below_then HB.out HB.out.size hb); clear hb)
          | (refine wpList_store_row rfl 24 (.tmp 9) (.tmp 36) rfl w2.heap.size (ns xs).toArray rfl rfl 24 _ (Blk.new w2 24 (ns zeroI)) (ten_size HX.out) (ten_same HX.out) (ten_one xs) ?_
             have K9 := Hd.mk ((Blk.new w2 24 (ns zeroI)).putRow (ns xs))
             have K3 := Hd.mk ((K3.out.alloc (.cells (ns zeroI).toArray 24)).rowFar (g := w2.heap.size) (by have := K3.out.lt; omega) (ns xs).toArray)
             have HB := Hd.mk (below_row (HB.out.alloc HB.out.size (.cells (ns zeroI).toArray 24)) HB.out.size (ns xs).toArray))
          | (refine wpList_load_row_w rfl 24 (.tmp 9) rfl _ rfl 24 (ns xs).toArray (0, 0) _ K9.out Try.underlying24 rfl (ten_size HX.out) ?_)
          | (refine wpList_neq_w true rfl 24 _ (.tmp 44) (.tmp 45) rfl (ns xs).toArray (ns xs).toArray rfl rfl (by kernel_rfl) (HXS.out _) ?_)
          | (go_at_call 12; clear T3; refine (HRX.out _).mono ?_; rintro e w3 ⟨rfl, hb⟩; have K3 := Hd.mk (K3.out.below hb K3.out.lt); have HB := Hd.mk (below_then HB.out HB.out.size hb); clear hb)
          | (go_at_call 21; refine (index_any A _ c l F _ _ (HL.out.below HB.out) rfl (by have := HN64.out; omega) HFI.out).mono ?_; rintro e w4 ⟨v4, rfl, ho, hb⟩; obtain ⟨A4, c4, rfl, hc4, hr4, _⟩ := own_rc ho; have HR4 := Hd.mk hr4; have HC4 := Hd.mk hc4; have HB := Hd.mk (below_then HB.out HB.out.size hb); clear ho hb hr4 hc4)
          | (go_at_call 26; refine (pointers_any A4 _ c4 F Y _ _ HR4.out rfl HC4.out (by have := HFL.out; omega) HFP.out).mono ?_; rintro e w5 ⟨v5, rfl, ho, hb⟩; rw [HYL.out] at ho; obtain ⟨A5, c5, rfl, hc5, hr5, _⟩ := own_rc ho; have hcut := cut_high (P := Try.prog) 43 3 Try.underlying43 info_int A5 64 c5 l.length (by have := HN64.out; omega); have HR5 : Hd (Rc w5 A5 (ns l)) := ⟨by rw [← HYT.out]; exact hr5.take _⟩; have HB := Hd.mk (below_then HB.out HB.out.size hb); clear ho hb hr5)
          | (go_at_call 28; refine (ints_any A5 A _ _ c5 c l l _ HR5.out (HL.out.below HB.out) (by have := HN64.out; omega) rfl rfl).mono ?_; rintro e w6 ⟨rfl, hdr⟩; rw [show (l == l) = true by simp]; have HB := Hd.mk (below_then HB.out HB.out.size (hdr.below _)); clear hdr)
          | (go_at_call 24; clear T4; refine (decode_any B _ d b _ (HBB.out.below HB.out) rfl HD.out (by have := HB400.out; omega)).mono ?_; rintro e w7 ⟨rfl, hb⟩; rw [HD2.out.1, HD2.out.2]; have HB := Hd.mk (below_then HB.out HB.out.size hb); clear hb)
          | (refine wpList_store_row rfl 24 (.tmp 15) (.tmp 92) rfl w7.heap.size (ns Z).toArray rfl rfl 24 _ (Blk.new w7 24 (ns zeroI)) (ten_size HZL.out) (ten_same HZL.out) (ten_one Z) ?_
             have K15 := Hd.mk ((Blk.new w7 24 (ns zeroI)).putRow (ns Z))
             have HB := Hd.mk (below_row (HB.out.alloc HB.out.size (.cells (ns zeroI).toArray 24)) HB.out.size (ns Z).toArray))
          | (refine wpList_load_row_w rfl 24 (.tmp 15) rfl _ rfl 24 (ns Z).toArray (0, 0) _ K15.out Try.underlying24 rfl (ten_size HZL.out) ?_)
          | (go_at_call 11; clear T5; refine (HZE.out _).mono ?_; rintro e w8 ⟨v8, rfl, ho, hb⟩; obtain ⟨A8, c8, rfl, hc8, hr8, _⟩ := own_rc ho; have HR8 := Hd.mk hr8; have K15 := Hd.mk (K15.out.below hb K15.out.lt); have HB := Hd.mk (below_then HB.out HB.out.size hb); clear ho hb hr8)
          | (go_at_call 12; clear T6; refine (HZR.out _).mono ?_; rintro e w9 ⟨rfl, hb⟩; have HR8 := Hd.mk (HR8.out.below hb); have HB := Hd.mk (below_then HB.out HB.out.size hb); clear hb)
          | (go_at_call 14; refine (same_any A8 B _ _ c8 d b b _ HR8.out (HBB.out.below HB.out) rfl rfl).mono ?_; rintro e w10 ⟨rfl, rfl⟩; rw [show (b == b) = true by simp])
          | (go_at_call 13; refine (known_calls _).mono ?_; rintro e w11 ⟨rfl, hb⟩; have HB := Hd.mk (below_then HB.out HB.out.size hb); clear hb))
        go_ret
        exact ⟨rfl, HB.out⟩
end Go.Proofs.Ytmebgejjaljhgaa
