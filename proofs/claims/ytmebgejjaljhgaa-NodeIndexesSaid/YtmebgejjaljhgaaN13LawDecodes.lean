/- Walks: the law NodeDecodes. -/
import Derived.Test.YtmebgejjaljhgaaN13Known
namespace Go.Proofs.Ytmebgejjaljhgaa
open Go.RowKit Go.Sac
set_option linter.unusedVariables false
set_option linter.unusedSimpArgs false

/-- both decode it so -/
def DecIs (A : Option Addr) (n c : Nat) (b : List UInt8) (X : List Int) (er : Int) : Prop :=
  ∀ w, Rc w A (bs b) → Calls Try.prog 24 #[.slice A n c] w (RetI X er w) ∧ Calls Try.prog 25 #[.slice A n c] w (RetI X er w)
theorem decX_len (b : List UInt8) : (decX b).length = 10 := by
  unfold decX
  split
  · exact decK_len b 10
  · rfl
theorem dec_is (A : Option Addr) (c : Nat) (b : List UInt8) (hc : b.length ≤ c) (hn : b.length ≤ 1000000) : ∃ X er, X.length = 10 ∧ DecIs A b.length c b X er :=
  ⟨decX b, decE b, decX_len b, fun w hr => ⟨decode_calls A c b w hr hc (by omega), rdecode_calls A c b w hr hc hn⟩⟩
def PtsIs (A : Option Addr) (n c : Nat) (b : List UInt8) (X : List Int) (er : Int) : Prop :=
  ∀ w, Rc w A (bs b) → Calls Try.prog 26 #[.slice A n c] w (RetN X er w) ∧ Calls Try.prog 27 #[.slice A n c] w (RetN X er w)
theorem ptsL_len (b : List UInt8) : (ptsL b).length ≤ 64 := by
  unfold ptsL
  split
  · rw [ptrL_len]; exact Nat.le_refl _
  · exact Nat.zero_le _
theorem pts_is (A : Option Addr) (c : Nat) (b : List UInt8) (hc : b.length ≤ c) (hn : b.length ≤ 1000000) : ∃ X er, X.length ≤ 64 ∧ PtsIs A b.length c b X er :=
  ⟨ptsL b, ptsE b, ptsL_len b, fun w hr => ⟨pointers_calls A c b w hr hc (by omega), rpointers_calls A c b w hr hc⟩⟩
theorem ten_size {X : List Int} (h : X.length = 10) : (Try.prog.info? 24).map (·.size) = some (ns X).toArray.size := info_inode.trans (by simp [h])
theorem ten_same {X : List Int} (h : X.length = 10) : (ns zeroI).toArray.size = (ns X).toArray.size := by simp [h, zeroI]
theorem ten_one (X : List Int) : (ns X).toArray.all (·.oneCell') = true := by
  rw [List.all_toArray, List.all_eq_true]
  exact ns_one
set_option maxHeartbeats 4000000 in
theorem law_decodes (A : Option Addr) (c : Nat) (b : List UInt8) (B : Option Addr) (d : Nat) (z : List UInt8) (w : World) (hl : Rc w A (bs b)) (hc : b.length ≤ c) (hn : b.length ≤ 140737488351232) (hz : Rc w B (bs z)) (hd : z.length ≤ d) (hm : z.length ≤ 140737488351232) :
    Calls Try.prog 8 #[.slice A b.length c, .slice B z.length d] w (RetT w) := by
  by_cases hbig : b.length + z.length > 1000
  · have c1 : decide ((b.length : Int) + (z.length : Int) > 1000) = true := by simp; omega
    clear hbig hl hz hc hd
    go_enter Try.func8, Try.ntmps8
    go_wp2_with (go_at_call 13; refine (known_calls _).mono ?_; rintro e w1 ⟨rfl, hb⟩; have HB := Hd.mk hb; clear hb)
    go_ret
    exact ⟨rfl, HB.out⟩
  · have c1 : decide ((b.length : Int) + (z.length : Int) > 1000) = false := by simp; omega
    obtain ⟨X, er, hX, hDI⟩ := dec_is A c b hc (by omega)
    obtain ⟨Y, es, hY, hPI⟩ := pts_is B d z hd (by omega)
    have HX := Hd.mk hX
    have HY := Hd.mk hY
    have HDI := Hd.mk hDI
    have HPI := Hd.mk hPI
    have HL := Hd.mk hl
    have HZ := Hd.mk hz
    have HE : Hd (∀ w, (Op.equalIn 10000 24 (.agg (ns X).toArray) (.agg (ns X).toArray)).run Try.prog w = .ok true w) := ⟨fun w => (eq_inode X X hX hX w).trans (congrArg (Result.ok · w) (beq_self_eq_true X))⟩
    clear hbig hl hz hc hd hX hY hDI hPI
    have T1 : Hd True := ⟨trivial⟩
    have T2 : Hd True := ⟨trivial⟩
    have T3 : Hd True := ⟨trivial⟩
    have T4 : Hd True := ⟨trivial⟩
    go_enter Try.func8, Try.ntmps8
    go_wp2_with (first
      | (go_at_call 24; refine ((HDI.out _ HL.out).1).mono ?_; rintro e w1 ⟨rfl, hb⟩; have HB := Hd.mk hb; clear hb)
      | (refine wpList_store_row rfl 24 (.tmp 5) (.tmp 23) rfl w1.heap.size (ns X).toArray rfl rfl 24 _ (Blk.new w1 24 (ns zeroI)) (ten_size HX.out) (ten_same HX.out) (ten_one X) ?_
         have K5 := Hd.mk ((Blk.new w1 24 (ns zeroI)).putRow (ns X))
         have HB := Hd.mk (below_row (HB.out.alloc HB.out.size (.cells (ns zeroI).toArray 24)) HB.out.size (ns X).toArray))
      | (go_at_call 25; refine ((HDI.out _ (HL.out.below HB.out)).2).mono ?_; rintro e w2 ⟨rfl, hb⟩; have K5 := Hd.mk (K5.out.below hb K5.out.lt); have HB := Hd.mk (below_then HB.out HB.out.size hb); clear hb)
      | (refine wpList_store_row rfl 24 (.tmp 7) (.tmp 28) rfl w2.heap.size (ns X).toArray rfl rfl 24 _ (Blk.new w2 24 (ns zeroI)) (ten_size HX.out) (ten_same HX.out) (ten_one X) ?_
         have K7 := Hd.mk ((Blk.new w2 24 (ns zeroI)).putRow (ns X))
         have K5 := Hd.mk ((K5.out.alloc (.cells (ns zeroI).toArray 24)).rowFar (g := w2.heap.size) (by have := K5.out.lt; omega) (ns X).toArray)
         have HB := Hd.mk (below_row (HB.out.alloc HB.out.size (.cells (ns zeroI).toArray 24)) HB.out.size (ns X).toArray))
      | (go_at_call 26; refine ((HPI.out _ (HZ.out.below HB.out)).1).mono ?_; rintro e w3 ⟨v3, rfl, ho, hb⟩; obtain ⟨A3, c3, rfl, _, hr3, _⟩ := own_rc ho; have HR3 := Hd.mk hr3; have K5 := Hd.mk (K5.out.below hb K5.out.lt); have K7 := Hd.mk (K7.out.below hb K7.out.lt); have HB := Hd.mk (below_then HB.out HB.out.size hb); clear hb ho hr3)
      | (go_at_call 27; refine ((HPI.out _ (HZ.out.below HB.out)).2).mono ?_; rintro e w4 ⟨v4, rfl, ho, hb⟩; obtain ⟨A4, c4, rfl, _, hr4, _⟩ := own_rc ho; have HR4 := Hd.mk hr4; have HR3 := Hd.mk (HR3.out.below hb); have K5 := Hd.mk (K5.out.below hb K5.out.lt); have K7 := Hd.mk (K7.out.below hb K7.out.lt); have HB := Hd.mk (below_then HB.out HB.out.size hb); clear hb ho hr4)
      | (refine wpList_load_row_w rfl 24 (.tmp 5) rfl _ rfl 24 (ns X).toArray (0, 0) _ K5.out Try.underlying24 rfl (ten_size HX.out) ?_)
      | (refine wpList_load_row_w rfl 24 (.tmp 7) rfl _ rfl 24 (ns X).toArray (0, 0) _ K7.out Try.underlying24 rfl (ten_size HX.out) ?_)
      | (refine wpList_eql_w true rfl 24 _ (.tmp 40) (.tmp 41) rfl (ns X).toArray (ns X).toArray rfl rfl (by kernel_rfl) (HE.out _) ?_)
      | (go_at_call 28; refine (ints_any _ _ _ _ _ _ Y Y _ HR3.out HR4.out (by have := HY.out; omega) rfl rfl).mono ?_; rintro e w5 ⟨rfl, hd⟩; rw [show (Y == Y) = true by simp]; have HB := Hd.mk (below_then HB.out HB.out.size (hd.below _)); clear hd)
      | (go_at_call 13; refine (known_calls _).mono ?_; rintro e w6 ⟨rfl, hb⟩; have HB := Hd.mk (below_then HB.out HB.out.size hb); clear hb))
    go_ret
    exact ⟨rfl, HB.out⟩
end Go.Proofs.Ytmebgejjaljhgaa
