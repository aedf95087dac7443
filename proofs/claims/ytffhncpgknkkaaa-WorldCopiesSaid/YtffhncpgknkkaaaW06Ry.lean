/- W06Ry: W06Ry, W06Rz, CPadRef2, W06Rs, W06Rws, W06Rwt. -/
import Derived.Test.YtffhncpgknkkaaaW06Rt
import Derived.Test.YtffhncpgknkkaaaW06Read
import Derived.Test.YtffhncpgknkkaaaCPad2
import Derived.Test.YtffhncpgknkkaaaW06Sl
/-! from W06Ry -/
namespace Go.Proofs.Ytffhncpgknkkaaa
open Go.RowKit Go.Sac
set_option linter.unusedVariables false
set_option linter.unusedSimpArgs false
theorem boxed_end {K K3 : Nat → Nat} {n : Nat} (hl : ∀ k, K3 k = 0 → K k = 0) (ht : K3 n ≠ 0) (w : World) (cs : Array Value) : Stp K3 K w (w.setRow n cs) :=
  ⟨rfl, rfl, rfl, by simp, fun k hk h0 => setRow_other _ _ _ _ (fun e => ht (by rw [← e]; exact h0)), fun k _ h => hl k h⟩
theorem boxed_start {w W : World} {K : Nat → Nat} (hb : Below w.heap.size w W) (hz : W.heap.size = w.heap.size + 2) (hK : ∀ k, w.heap.size ≤ k → K k = 0) :
    ∃ K3 : Nat → Nat, (∀ k, K3 k = 0 → K k = 0) ∧ K3 w.heap.size ≠ 0 ∧ K3 (w.heap.size + 1) ≠ 0 ∧ (∀ k, W.heap.size ≤ k → K3 k = 0) ∧ Stp K K3 w W := by
  refine ⟨fun k => if k = w.heap.size ∨ k = w.heap.size + 1 then 1 else K k, fun k hk => ?_, by simp, by simp, fun k hk => ?_, Stp.into hb fun k hk => if_neg (by omega)⟩
  · by_cases e : k = w.heap.size ∨ k = w.heap.size + 1
    · simp [e] at hk
    · simpa [e] using hk
  · show (if k = w.heap.size ∨ k = w.heap.size + 1 then 1 else K k) = 0
    rw [if_neg (by omega)]
    exact hK k (by omega)
theorem Bx.row {w W : World} {X : List Value} (h : Bx w X W) (cs : Array Value) : Below w.heap.size w (W.setRow (w.heap.size + 1) cs) := below_row h.bel (by omega) cs
def VRRead (B : Nat) (bA off : Nat) (an tn ix : Nat) (blocks : Int) (AS : Option Addr) (sS : List Rw) (cS : Nat) (AQ : Option Addr) (sQ : List Rw) (cQ : Nat) (counter : Int) (AL : Option Addr) (sL : List Lw) (cL : Nat) (reads : Int) (armed : Bool) (power : Int) (dead : Bool) (AT : Option Addr) (sT : List Tr) (cT : Nat) (yA : Option Addr) (yb : List UInt8) (yc : Nat) (i : Nat) (w : World) (v : Value) : Prop :=
  match i with
  | 0 => v = Value.agg #[.int .i64 blocks, .slice (some ⟨bA, off, none⟩) sS.length cS, .slice AQ sQ.length cQ, .int .u64 counter, .slice AL sL.length cL, .int .i64 reads, .bool armed, .int .i64 power, .bool dead, .slice AT sT.length cT]
  | 1 => v = Value.pointer (some ⟨B, 1, none⟩)
  | 2 => v = Value.slice (some ⟨bA, off, none⟩) sS.length cS
  | 3 => v = Value.int .i64 (an : Int)
  | 4 => v = Value.int .i64 (2 * (an : Int))
  | 5 => v = Value.int .i64 (tn : Int)
  | 6 => v = Value.int .i64 (ix : Int)
  | 7 => v = Value.pointer (some ⟨bA, off + ix, none⟩)
  | 8 => v = Value.slice yA yb.length yc
  | _ => True
def VRLook (B : Nat) (bA off : Nat) (ix : Nat) (blocks : Int) (AS : Option Addr) (sS : List Rw) (cS : Nat) (AQ : Option Addr) (sQ : List Rw) (cQ : Nat) (counter : Int) (AL : Option Addr) (sL : List Lw) (cL : Nat) (reads : Int) (armed : Bool) (power : Int) (dead : Bool) (AT : Option Addr) (sT : List Tr) (cT : Nat) (yA : Option Addr) (yb : List UInt8) (yc : Nat) (i : Nat) (w : World) (v : Value) : Prop :=
  match i with
  | 0 => v = Value.agg #[.int .i64 blocks, .slice AS sS.length cS, .slice (some ⟨bA, off, none⟩) sQ.length cQ, .int .u64 counter, .slice AL sL.length cL, .int .i64 reads, .bool armed, .int .i64 power, .bool false, .slice AT sT.length cT]
  | 1 => v = Value.pointer (some ⟨B, 2, none⟩)
  | 2 => v = Value.slice (some ⟨bA, off, none⟩) sQ.length cQ
  | 3 => v = Value.int .i64 (ix : Int)
  | 4 => v = Value.pointer (some ⟨bA, off + ix, none⟩)
  | 5 => v = Value.slice yA yb.length yc
  | _ => True
section
variable {w : World} {K : Nat → Nat} {q : Nat} {x : Td} {s : Wd}
set_option maxRecDepth 100000 in
set_option maxHeartbeats 8000000 in
theorem rread_calls (h : Tm w K q x s) (hK : ∀ k, w.heap.size ≤ k → K k = 0) (hq : q ≤ 1000000) (hf : Few s) (a t : Int) :
    Calls Try.prog 41 #[.agg x.cells.toArray, .int .i64 a, .int .i64 t] w (RetTR K q (readP s a t) (readB s a t) w) := by
  have HQ := Hd.mk hq
  have HK := Hd.mk hK
  have HRD : Hd (s.reads ≤ 1000000) := ⟨hf.reads⟩
  have HTL : Hd (s.trace.length ≤ 1000000) := ⟨hf.trace⟩
  obtain ⟨blocks, AS, sS, cS, AQ, sQ, cQ, counter, AL, sL, cL, reads, armed, power, dead, AT, sT, cT⟩ := x
  have HX := Hd.mk h
  unfold Td.cells
  dsimp only
  obtain ⟨W, hW, hb, hk0, hk1, hz⟩ := two_boxes w [.int .i64 blocks, .slice AS sS.length cS, .slice AQ sQ.length cQ, .int .u64 counter, .slice AL sL.length cL, .int .i64 reads, .bool armed, .int .i64 power, .bool dead, .slice AT sT.length cT]
  have HBX : Hd (Bx w [.int .i64 blocks, .slice AS sS.length cS, .slice AQ sQ.length cQ, .int .u64 counter, .slice AL sL.length cL, .int .i64 reads, .bool armed, .int .i64 power, .bool dead, .slice AT sT.length cT] W) := ⟨⟨hb, hk0, hk1⟩⟩
  obtain ⟨K3, hl3, _, ht3, hh3, hs3⟩ := boxed_start hb hz hK
  have HX3 := Hd.mk (h.step hs3)
  have HL3 := Hd.mk hl3
  have HT3 := Hd.mk ht3
  have HK3 := Hd.mk hh3
  have HS3 := Hd.mk hs3
  have HBW : Hd (Below W.heap.size W W) := ⟨Below.refl _ _⟩
  clear hb hk0 hk1 hz hK hq hf hl3 ht3 hh3 hs3
  by_cases hth : thereP s a t = true
  · have HTH := Hd.mk hth
    have hab : 0 ≤ a ∧ a < s.blocks ∧ (t = 0 ∨ t = 1) := by
      unfold thereP at hth
      simp only [Bool.and_eq_true, Bool.or_eq_true, decide_eq_true_eq] at hth
      exact ⟨hth.2.1, hth.2.2.1, hth.2.2.2⟩
    obtain ⟨an, rfl⟩ : ∃ an : Nat, a = (an : Int) := ⟨a.toNat, by omega⟩
    obtain ⟨tn, rfl⟩ : ∃ tn : Nat, t = (tn : Int) := ⟨t.toNat, by omega⟩
    have htn : tn < 2 := by omega
    obtain ⟨ix, hix⟩ : ∃ ix, 2 * an + tn = ix := ⟨_, rfl⟩
    have hsl : sS.length = 2 * s.blocks.toNat := h.es
    have hbk := h.nm.2.1
    have hil : ix < sS.length := by omega
    have HM2 : Hd (IntKind.i64.wrap (2 * (an : Int)) = 2 * (an : Int)) := ⟨by rw [IntKind.wrap_i64]; omega⟩
    have HM3 : Hd (IntKind.i64.wrap (2 * (an : Int) + (tn : Int)) = (ix : Int)) := ⟨by rw [IntKind.wrap_i64]; omega⟩
    have hsb : (sS[ix]).b = s.slots ((an : Int), (tn : Int)) := by
      have := h.em an tn (show 2 * an + tn < sS.length by omega) htn
      subst hix
      exact this
    obtain ⟨bA, off, rfl, hbb, hra⟩ := rcK_form rw_len (by decide) h.rs.rc (show 0 < sS.length by omega)
    have hy := hra ix hil
    have hyf := h.hs _ (List.getElem_mem hil)
    obtain ⟨y, hye⟩ : ∃ y, sS[ix] = y := ⟨_, rfl⟩
    rw [hye] at hy hyf hsb
    obtain ⟨yA, yb, yc⟩ := y
    have HIX : Hd (ix < sS.length) := ⟨hil⟩
    have HYW : Hd (∀ W', Below w.heap.size w W' → W'.cell? ⟨bA, off + ix, none⟩ = some (.slice yA yb.length yc)) := ⟨fun W' hb => by have := hy W' hb 0 _ rfl; simpa using this⟩
    have HYF : Hd (Fr W K3 yA yb) := ⟨hyf.1.step HS3.out⟩
    have HYC : Hd (yb.length ≤ yc) := ⟨hyf.2.1⟩
    obtain ⟨bb, hbb⟩ : ∃ bb, toldB s yb = bb := ⟨_, rfl⟩
    have HBB := Hd.mk hbb
    replace hsb : yb = s.slots ((an : Int), (tn : Int)) := hsb
    have HP : Hd (readP s (an : Int) (tn : Int) = noteP (toldP s) 1 (an : Int) (tn : Int) bb) := ⟨by unfold readP; rw [if_pos hth, ← hsb, hbb]⟩
    have HBQ : Hd (readB s (an : Int) (tn : Int) = bb) := ⟨by unfold readB; rw [if_pos hth, ← hsb, hbb]⟩
    clear hth hab htn hix hsl hbk hil hra hy hyf hye hsb hbb h
    have T1 : Hd True := ⟨trivial⟩
    go_enter Try.func41, Try.ntmps41
    go_wp2_with (first
      | (go_at_call 49; clear T1; refine (rthere_calls HX3.out (an : Int) (tn : Int)).mono ?_; rw [HTH.out]; rintro e w1 ⟨rfl, hb1⟩; have HBX := Hd.mk (HBX.out.below hb1); have HBW := Hd.mk hb1; clear hb1)
      | (refine wpList_load_row rfl 56 (.tmp 3) rfl w.heap.size rfl 56 _ (0, 0) _ HBX.out.b0 Try.underlying56 rfl t_info ?_))
    have HX1 := Hd.mk (HX3.out.below HBW.out)
    have HBK : Hd (∀ w6, Below w1.heap.size w1 w6 → Blk w6 w.heap.size 56 [.int .i64 blocks, .slice (some ⟨bA, off, none⟩) sS.length cS, .slice AQ sQ.length cQ, .int .u64 counter, .slice AL sL.length cL, .int .i64 reads, .bool armed, .int .i64 power, .bool dead, .slice AT sT.length cT]) := ⟨fun w6 hb => HBX.out.b0.below hb HBX.out.b0.lt⟩
    have HY : Hd (∀ w6, Below w1.heap.size w1 w6 → w6.cell? ⟨bA, off + ix, none⟩ = some (.slice yA yb.length yc)) := ⟨fun w6 hb => HYW.out w6 (below_then HBX.out.bel HBX.out.bel.size hb)⟩
    have HYF := Hd.mk (HYF.out.below HBW.out)
    refine region_stp (VRRead w.heap.size bA off an tn ix blocks (some ⟨bA, off, none⟩) sS cS AQ sQ cQ counter AL sL cL reads armed power dead AT sT cT yA yb yc) (fun L Wx f => CSE 9 13 14 w1 K3 (RB q (toldP s) bb) L Wx f ∧ LK [(10, 9, 0), (11, 10, 1), (12, 10, 2), (15, 12, 0)] L f) NoR (by kernel_rfl) (by kernel_rfl) (by kernel_rfl) (by kernel_rfl) (fun f => ⟨CSE.start (fun k hk => HK3.out k (Nat.le_trans HBW.out.size hk)) f, LK.start _ f⟩) ?stab ?steps ?fin
    case stab => intro i j w1 w2 v o ho hij hwt hR h; exact h
    case steps =>
      refine StepsG.cons ?_ (StepsG.cons ?_ (StepsG.cons ?_ (StepsG.cons ?_ (StepsG.cons ?_ (StepsG.cons ?_ (StepsG.cons ?_ (StepsG.cons ?_ (StepsG.cons ?_ (StepsG.cons ?_ (StepsG.cons ?_ (StepsG.cons ?_ (StepsG.cons ?_ (StepsG.cons ?_ (StepsG.cons ?_ (StepsG.cons ?_ StepsG.nil)))))))))))))))
      · intro L f A w6 Q hL hG hsz hlow hun hnl hp
        have e3 : A.tmps.getD 3 undef = Value.pointer (some ⟨w.heap.size, 0, none⟩) := hlow 3 rfl
        have hbk := HBK.out w6 hG.1.bel
        clear hlow hun hnl hp
        refine wpOp_go rfl rfl (wp_load_row 56 (.tmp 3) rfl (w.heap.size) ?_ 56 #[.int .i64 blocks, .slice (some ⟨bA, off, none⟩) sS.length cS, .slice AQ sQ.length cQ, .int .u64 counter, .slice AL sL.length cL, .int .i64 reads, .bool armed, .int .i64 power, .bool dead, .slice AT sT.length cT] (0, 0) _ hbk Try.underlying56 rfl t_info ⟨_, rfl, ⟨hG.1.past 0 _ (by decide), hG.2.past 0 _ (by decide) (by simp)⟩, ⟨⟩, rfl⟩)
        exact e3
      · intro L f A w6 Q hL hG hsz hlow hun hnl hp
        have e3 : A.tmps.getD 3 undef = Value.pointer (some ⟨w.heap.size, 0, none⟩) := hlow 3 rfl
        clear hlow hun hnl hp
        refine wpOp_go rfl rfl ?_
        go_simp
        first | exact ⟨_, rfl, ⟨hG.1.past 1 _ (by decide), hG.2.past 1 _ (by decide) (by simp)⟩, ⟨⟩, rfl⟩ | exact ⟨⟨hG.1.past 1 _ (by decide), hG.2.past 1 _ (by decide) (by simp)⟩, ⟨⟩, rfl⟩ | exact ⟨⟨hG.1.past 1 _ (by decide), hG.2.past 1 _ (by decide) (by simp)⟩, rfl⟩ | exact ⟨hG.1.past 1 _ (by decide), hG.2.past 1 _ (by decide) (by simp)⟩ | exact ⟨⟨hG.1.past 1 _ (by decide), hG.2.past 1 _ (by decide) (by simp)⟩, ⟨⟩⟩ | exact ⟨_, rfl, ⟨hG.1.past 1 _ (by decide), hG.2.past 1 _ (by decide) (by simp)⟩, ⟨⟩, trivial⟩ | exact ⟨_, rfl, ⟨⟩, rfl⟩ | exact ⟨⟨⟩, rfl⟩
      · intro L f A w6 Q hL hG hsz hlow hun hnl hp
        have f1 : f 1 = Value.pointer (some ⟨w.heap.size, 1, none⟩) := (hp 1 rfl).2.1
        have e18 : A.tmps.getD 18 undef = Value.pointer (some ⟨w.heap.size, 1, none⟩) := ((hp 1 rfl).2.2 18 rfl).trans f1
        have hcc := (HBK.out w6 hG.1.bel).cell (i := 1) (v := .slice (some ⟨bA, off, none⟩) sS.length cS) rfl
        clear hlow hun hnl hp
        refine wpOp_go rfl rfl ?_
        go_simp
        first | exact ⟨_, rfl, ⟨hG.1.past 2 _ (by decide), hG.2.past 2 _ (by decide) (by simp)⟩, ⟨⟩, rfl⟩ | exact ⟨⟨hG.1.past 2 _ (by decide), hG.2.past 2 _ (by decide) (by simp)⟩, ⟨⟩, rfl⟩ | exact ⟨⟨hG.1.past 2 _ (by decide), hG.2.past 2 _ (by decide) (by simp)⟩, rfl⟩ | exact ⟨hG.1.past 2 _ (by decide), hG.2.past 2 _ (by decide) (by simp)⟩ | exact ⟨⟨hG.1.past 2 _ (by decide), hG.2.past 2 _ (by decide) (by simp)⟩, ⟨⟩⟩ | exact ⟨_, rfl, ⟨hG.1.past 2 _ (by decide), hG.2.past 2 _ (by decide) (by simp)⟩, ⟨⟩, trivial⟩ | exact ⟨_, rfl, ⟨⟩, rfl⟩ | exact ⟨⟨⟩, rfl⟩
      · intro L f A w6 Q hL hG hsz hlow hun hnl hp
        have e1 : A.tmps.getD 1 undef = Value.int .i64 (an : Int) := hlow 1 rfl
        clear hlow hun hnl hp
        refine wpOp_go rfl rfl ?_
        go_simp
        first | exact ⟨_, rfl, ⟨hG.1.past 3 _ (by decide), hG.2.past 3 _ (by decide) (by simp)⟩, ⟨⟩, rfl⟩ | exact ⟨⟨hG.1.past 3 _ (by decide), hG.2.past 3 _ (by decide) (by simp)⟩, ⟨⟩, rfl⟩ | exact ⟨⟨hG.1.past 3 _ (by decide), hG.2.past 3 _ (by decide) (by simp)⟩, rfl⟩ | exact ⟨hG.1.past 3 _ (by decide), hG.2.past 3 _ (by decide) (by simp)⟩ | exact ⟨⟨hG.1.past 3 _ (by decide), hG.2.past 3 _ (by decide) (by simp)⟩, ⟨⟩⟩ | exact ⟨_, rfl, ⟨hG.1.past 3 _ (by decide), hG.2.past 3 _ (by decide) (by simp)⟩, ⟨⟩, trivial⟩ | exact ⟨_, rfl, ⟨⟩, rfl⟩ | exact ⟨⟨⟩, rfl⟩
      · intro L f A w6 Q hL hG hsz hlow hun hnl hp
        have f3 : f 3 = Value.int .i64 (an : Int) := (hp 3 rfl).2.1
        have e20 : A.tmps.getD 20 undef = Value.int .i64 (an : Int) := ((hp 3 rfl).2.2 20 rfl).trans f3
        have hm2 := HM2.out
        clear hlow hun hnl hp
        refine wpOp_go rfl rfl ?_
        go_simp
        first | exact ⟨_, rfl, ⟨hG.1.past 4 _ (by decide), hG.2.past 4 _ (by decide) (by simp)⟩, ⟨⟩, rfl⟩ | exact ⟨⟨hG.1.past 4 _ (by decide), hG.2.past 4 _ (by decide) (by simp)⟩, ⟨⟩, rfl⟩ | exact ⟨⟨hG.1.past 4 _ (by decide), hG.2.past 4 _ (by decide) (by simp)⟩, rfl⟩ | exact ⟨hG.1.past 4 _ (by decide), hG.2.past 4 _ (by decide) (by simp)⟩ | exact ⟨⟨hG.1.past 4 _ (by decide), hG.2.past 4 _ (by decide) (by simp)⟩, ⟨⟩⟩ | exact ⟨_, rfl, ⟨hG.1.past 4 _ (by decide), hG.2.past 4 _ (by decide) (by simp)⟩, ⟨⟩, trivial⟩ | exact ⟨_, rfl, ⟨⟩, rfl⟩ | exact ⟨⟨⟩, rfl⟩
      · intro L f A w6 Q hL hG hsz hlow hun hnl hp
        have e2 : A.tmps.getD 2 undef = Value.int .i64 (tn : Int) := hlow 2 rfl
        clear hlow hun hnl hp
        refine wpOp_go rfl rfl ?_
        go_simp
        first | exact ⟨_, rfl, ⟨hG.1.past 5 _ (by decide), hG.2.past 5 _ (by decide) (by simp)⟩, ⟨⟩, rfl⟩ | exact ⟨⟨hG.1.past 5 _ (by decide), hG.2.past 5 _ (by decide) (by simp)⟩, ⟨⟩, rfl⟩ | exact ⟨⟨hG.1.past 5 _ (by decide), hG.2.past 5 _ (by decide) (by simp)⟩, rfl⟩ | exact ⟨hG.1.past 5 _ (by decide), hG.2.past 5 _ (by decide) (by simp)⟩ | exact ⟨⟨hG.1.past 5 _ (by decide), hG.2.past 5 _ (by decide) (by simp)⟩, ⟨⟩⟩ | exact ⟨_, rfl, ⟨hG.1.past 5 _ (by decide), hG.2.past 5 _ (by decide) (by simp)⟩, ⟨⟩, trivial⟩ | exact ⟨_, rfl, ⟨⟩, rfl⟩ | exact ⟨⟨⟩, rfl⟩
      · intro L f A w6 Q hL hG hsz hlow hun hnl hp
        have f4 : f 4 = Value.int .i64 (2 * (an : Int)) := (hp 4 rfl).2.1
        have e21 : A.tmps.getD 21 undef = Value.int .i64 (2 * (an : Int)) := ((hp 4 rfl).2.2 21 rfl).trans f4
        have f5 : f 5 = Value.int .i64 (tn : Int) := (hp 5 rfl).2.1
        have e22 : A.tmps.getD 22 undef = Value.int .i64 (tn : Int) := ((hp 5 rfl).2.2 22 rfl).trans f5
        have hm3 := HM3.out
        clear hlow hun hnl hp
        refine wpOp_go rfl rfl ?_
        go_simp
        first | exact ⟨_, rfl, ⟨hG.1.past 6 _ (by decide), hG.2.past 6 _ (by decide) (by simp)⟩, ⟨⟩, rfl⟩ | exact ⟨⟨hG.1.past 6 _ (by decide), hG.2.past 6 _ (by decide) (by simp)⟩, ⟨⟩, rfl⟩ | exact ⟨⟨hG.1.past 6 _ (by decide), hG.2.past 6 _ (by decide) (by simp)⟩, rfl⟩ | exact ⟨hG.1.past 6 _ (by decide), hG.2.past 6 _ (by decide) (by simp)⟩ | exact ⟨⟨hG.1.past 6 _ (by decide), hG.2.past 6 _ (by decide) (by simp)⟩, ⟨⟩⟩ | exact ⟨_, rfl, ⟨hG.1.past 6 _ (by decide), hG.2.past 6 _ (by decide) (by simp)⟩, ⟨⟩, trivial⟩ | exact ⟨_, rfl, ⟨⟩, rfl⟩ | exact ⟨⟨⟩, rfl⟩
      · intro L f A w6 Q hL hG hsz hlow hun hnl hp
        have f2 : f 2 = Value.slice (some ⟨bA, off, none⟩) sS.length cS := (hp 2 rfl).2.1
        have e19 : A.tmps.getD 19 undef = Value.slice (some ⟨bA, off, none⟩) sS.length cS := ((hp 2 rfl).2.2 19 rfl).trans f2
        have f6 : f 6 = Value.int .i64 (ix : Int) := (hp 6 rfl).2.1
        have e23 : A.tmps.getD 23 undef = Value.int .i64 (ix : Int) := ((hp 6 rfl).2.2 23 rfl).trans f6
        have hix : ix < sS.length := HIX.out
        have hixi : (ix : Int) < (sS.length : Int) := by omega
        clear hlow hun hnl hp
        refine wpOp_go rfl rfl ?_
        go_simp
        first | exact ⟨_, rfl, ⟨hG.1.past 7 _ (by decide), hG.2.past 7 _ (by decide) (by simp)⟩, ⟨⟩, rfl⟩ | exact ⟨⟨hG.1.past 7 _ (by decide), hG.2.past 7 _ (by decide) (by simp)⟩, ⟨⟩, rfl⟩ | exact ⟨⟨hG.1.past 7 _ (by decide), hG.2.past 7 _ (by decide) (by simp)⟩, rfl⟩ | exact ⟨hG.1.past 7 _ (by decide), hG.2.past 7 _ (by decide) (by simp)⟩ | exact ⟨⟨hG.1.past 7 _ (by decide), hG.2.past 7 _ (by decide) (by simp)⟩, ⟨⟩⟩ | exact ⟨_, rfl, ⟨hG.1.past 7 _ (by decide), hG.2.past 7 _ (by decide) (by simp)⟩, ⟨⟩, trivial⟩ | exact ⟨_, rfl, ⟨⟩, rfl⟩ | exact ⟨⟨⟩, rfl⟩
      · intro L f A w6 Q hL hG hsz hlow hun hnl hp
        have f7 : f 7 = Value.pointer (some ⟨bA, off + ix, none⟩) := (hp 7 rfl).2.1
        have e24 : A.tmps.getD 24 undef = Value.pointer (some ⟨bA, off + ix, none⟩) := ((hp 7 rfl).2.2 24 rfl).trans f7
        have hcc := HY.out w6 hG.1.bel
        clear hlow hun hnl hp
        refine wpOp_go rfl rfl ?_
        go_simp
        first | exact ⟨_, rfl, ⟨hG.1.past 8 _ (by decide), hG.2.past 8 _ (by decide) (by simp)⟩, ⟨⟩, rfl⟩ | exact ⟨⟨hG.1.past 8 _ (by decide), hG.2.past 8 _ (by decide) (by simp)⟩, ⟨⟩, rfl⟩ | exact ⟨⟨hG.1.past 8 _ (by decide), hG.2.past 8 _ (by decide) (by simp)⟩, rfl⟩ | exact ⟨hG.1.past 8 _ (by decide), hG.2.past 8 _ (by decide) (by simp)⟩ | exact ⟨⟨hG.1.past 8 _ (by decide), hG.2.past 8 _ (by decide) (by simp)⟩, ⟨⟩⟩ | exact ⟨_, rfl, ⟨hG.1.past 8 _ (by decide), hG.2.past 8 _ (by decide) (by simp)⟩, ⟨⟩, trivial⟩ | exact ⟨_, rfl, ⟨⟩, rfl⟩ | exact ⟨⟨⟩, rfl⟩
      · intro L f A w6 Q hL hG hsz hlow hun hnl hp
        have f0 : f 0 = Value.agg #[.int .i64 blocks, .slice (some ⟨bA, off, none⟩) sS.length cS, .slice AQ sQ.length cQ, .int .u64 counter, .slice AL sL.length cL, .int .i64 reads, .bool armed, .int .i64 power, .bool dead, .slice AT sT.length cT] := (hp 0 rfl).2.1
        have e17 : A.tmps.getD 17 undef = Value.agg #[.int .i64 blocks, .slice (some ⟨bA, off, none⟩) sS.length cS, .slice AQ sQ.length cQ, .int .u64 counter, .slice AL sL.length cL, .int .i64 reads, .bool armed, .int .i64 power, .bool dead, .slice AT sT.length cT] := ((hp 0 rfl).2.2 17 rfl).trans f0
        have f8 : f 8 = Value.slice yA yb.length yc := (hp 8 rfl).2.1
        have e25 : A.tmps.getD 25 undef = Value.slice yA yb.length yc := ((hp 8 rfl).2.2 25 rfl).trans f8
        have n10 := (hnl 10 9 hL rfl)
        have n14 := (hnl 14 9 hL rfl)
        clear hlow hun hnl hp
        refine wpOp_go rfl rfl ?_
        go_simp
        refine hG.1.call (RB.last q (toldP s) bb) (by decide) n14 (fun K2 hi hx => ?_) ?_
        · refine (rtold_calls (HX1.out.step (Stp.into hG.1.bel hx)) hi HQ.out HRD.out yA _ yc yb (HYF.out.step (Stp.into hG.1.bel hx)) rfl HYC.out).mono ?_
          rintro e w7 ⟨x7, A7, c7, rfl, h1, h2, h3, h4⟩
          rw [HBB.out] at h2 h3 ⊢
          exact ⟨_, _, rfl, ⟨x7, rfl, A7, c7, rfl, h1, h2, h3⟩, h4⟩
        intro v w7 hC
        exact ⟨_, rfl, ⟨hC, hG.2.past 9 _ (by decide) (by simp [n10])⟩, ⟨⟩, trivial⟩
      · intro L f A w6 Q hL hG hsz hlow hun hnl hp
        have e26 : A.tmps.getD 26 undef = f 9 := (hp 9 rfl).2.2 26 rfl
        have v9 := (hp 9 rfl).2.1
        have n11 := (hnl 11 10 hL rfl)
        have n12 := (hnl 12 10 hL rfl)
        clear hlow hun hnl hp
        refine wpOp_go rfl rfl ?_
        go_simp
        exact ⟨_, rfl, ⟨hG.1.past 10 _ (by decide), hG.2.at 10 9 0 (by decide) (by simp) (by simp [n11, n12]) (by simp)⟩, ⟨⟩, trivial⟩
      · intro L f A w6 Q hL hG hsz hlow hun hnl hp
        have e16 : A.tmps.getD 16 undef = f 10 := (hp 10 rfl).2.2 16 rfl
        have v10 := (hp 10 rfl).2.1
        have hmv := hG.2 (10, 9, 0) (by simp) (hp 10 rfl).1
        have lic : L 9 = true := by
          cases h : L 9 with
          | true => rfl
          | false => have := hnl 10 9 h rfl; rw [(hp 10 rfl).1] at this; cases this
        obtain ⟨K9, cs9, h9⟩ := hG.1.told lic
        obtain ⟨x9, hcs9, A9, c9, hsh9, hTm9, hFr9, hle9⟩ := h9
        have hmv2 : f 10 = .tuple #[.agg x9.cells.toArray, .slice A9 bb.length c9] := hmv.trans hsh9
        rw [hmv2] at e16
        have hpj : prj 1 (f 10) = .agg x9.cells.toArray := by rw [hmv2]; rfl
        have hLK := hG.2.at 11 10 1 (by decide) (by simp) (by simp) (by simp)
        rw [hpj] at hLK
        clear hlow hun hnl hp
        refine wpOp_go rfl rfl ?_
        go_simp
        exact ⟨_, rfl, ⟨hG.1.past 11 _ (by decide), hLK⟩, ⟨⟩, trivial⟩
      · intro L f A w6 Q hL hG hsz hlow hun hnl hp
        have e16 : A.tmps.getD 16 undef = f 10 := (hp 10 rfl).2.2 16 rfl
        have v10 := (hp 10 rfl).2.1
        have n15 := (hnl 15 12 hL rfl)
        have hmv := hG.2 (10, 9, 0) (by simp) (hp 10 rfl).1
        have lic : L 9 = true := by
          cases h : L 9 with
          | true => rfl
          | false => have := hnl 10 9 h rfl; rw [(hp 10 rfl).1] at this; cases this
        obtain ⟨K9, cs9, h9⟩ := hG.1.told lic
        obtain ⟨x9, hcs9, A9, c9, hsh9, hTm9, hFr9, hle9⟩ := h9
        have hmv2 : f 10 = .tuple #[.agg x9.cells.toArray, .slice A9 bb.length c9] := hmv.trans hsh9
        rw [hmv2] at e16
        have hpj : prj 2 (f 10) = .slice A9 bb.length c9 := by rw [hmv2]; rfl
        have hLK := hG.2.at 12 10 2 (by decide) (by simp) (by simp [n15]) (by simp)
        rw [hpj] at hLK
        clear hlow hun hnl hp
        refine wpOp_go rfl rfl ?_
        go_simp
        exact ⟨_, rfl, ⟨hG.1.past 12 _ (by decide), hLK⟩, ⟨⟩, trivial⟩
      · intro L f A w6 Q hL hG hsz hlow hun hnl hp
        have n14 := (hnl 14 13 hL rfl)
        clear hlow hun hnl hp
        refine wpOp_go rfl rfl ?_
        go_simp
        exact ⟨_, rfl, ⟨hG.1.alloc (RB.last q (toldP s) bb) (by decide) n14, hG.2.past 13 _ (by decide) (by simp)⟩, ⟨⟩, trivial⟩
      · intro L f A w6 Q hL hG hsz hlow hun hnl hp
        have e8 : A.tmps.getD 8 undef = f 13 := (hp 13 rfl).2.2 8 rfl
        have v13 := (hp 13 rfl).2.1
        have e27 : A.tmps.getD 27 undef = f 11 := (hp 11 rfl).2.2 27 rfl
        have v11 := (hp 11 rfl).2.1
        have hmv := hG.2 (10, 9, 0) (by simp) (hp 10 rfl).1
        have lic := (hp 9 rfl).1
        obtain ⟨K9, cs9, h9⟩ := hG.1.told lic
        have h90 := h9
        obtain ⟨x9, hcs9, A9, c9, hsh9, hTm9, hFr9, hle9⟩ := h9
        have hx0 := hG.2 (11, 10, 1) (by simp) (hp 11 rfl).1
        have hmv2 : f 10 = .tuple #[.agg x9.cells.toArray, .slice A9 bb.length c9] := hmv.trans hsh9
        rw [hmv2] at hx0
        have hx0 : f 11 = .agg x9.cells.toArray := hx0
        obtain ⟨g9, hg9, hz9, hS⟩ := hG.1.store (RB.last q (toldP s) bb) (by decide) lic (hp 13 rfl).1 hL x9.cells (fun K2 hh => RB.same hsh9 hh)
        rw [hg9] at e8
        rw [hx0] at e27
        clear hlow hun hnl hp
        refine wpOp_go rfl rfl (wp_store_row 56 (.tmp 8) (.tmp 27) rfl g9 x9.cells.toArray e8 e27 56 zT.toArray hz9 t_info rfl (t_all x9) ⟨undef, rfl, ⟨hS undef, hG.2.past 14 _ (by decide) (by simp)⟩, ⟨⟩, trivial⟩)
      · intro L f A w6 Q hL hG hsz hlow hun hnl hp
        have e28 : A.tmps.getD 28 undef = f 12 := (hp 12 rfl).2.2 28 rfl
        have v12 := (hp 12 rfl).2.1
        clear hlow hun hnl hp
        refine wpOp_go rfl rfl ?_
        go_simp
        exact ⟨_, rfl, ⟨hG.1.past 15 _ (by decide), hG.2.at 15 12 0 (by decide) (by simp) (by simp) (by simp)⟩, ⟨⟩, trivial⟩
    case fin =>
      intro L f w9 hLL hG hV
      obtain ⟨g9, cs9, hg9, hge9, ⟨x9, hcs9, A9, c9, hsh9, hTm9, hFr9, hle9⟩, hbk9, hbel9⟩ := hG.1.done (RB.last q (toldP s) bb) (hLL 9 (by simp)) (hLL 13 (by simp)) (hLL 14 (by simp))
      have lk := fun t ht hl => hG.2 t ht hl
      have e1 := lk (10, 9, 0) (by simp) (hLL 10 (by simp))
      have e2 := lk (12, 10, 2) (by simp) (hLL 12 (by simp))
      have e3 := lk (15, 12, 0) (by simp) (hLL 15 (by simp))
      have e1 : f 10 = f 9 := e1
      rw [hsh9] at e1
      rw [e1] at e2
      have e2 : f 12 = .slice A9 bb.length c9 := e2
      have e3 : f 15 = f 12 := e3
      rw [e2] at e3
      subst hcs9
      have HB9 := Hd.mk (HBX.out.below hbel9)
      have HBK9 := Hd.mk hbk9
      have HT9 := Hd.mk hTm9
      have HF9 := Hd.mk hFr9
      have HC9 := Hd.mk hle9
      have HK9 : Hd (∀ k, w9.heap.size ≤ k → K3 k = 0) := ⟨fun k hk => HK3.out k (Nat.le_trans (Nat.le_trans HBW.out.size hbel9.size) hk)⟩
      clear hV hG hLL hsh9 hTm9 hFr9 hle9 hbk9 hbel9 e1 e2 lk HBX HX1 HBK HY HYF
      simp only [fillD, Act.put, List.setIfInBounds_toArray, List.set_cons_zero, List.set_cons_succ]
      rw [hg9, e3]
      clear hg9 e3
      go_wp2_with (first
        | (refine wpList_load_row rfl 56 (.tmp 8) rfl g9 rfl 56 _ (0, 0) _ HBK9.out Try.underlying56 rfl t_info ?_)
        | (go_at_call 51; refine (rnote_calls HT9.out HK9.out HTL.out 1 (an : Int) (tn : Int) A9 _ c9 bb HF9.out rfl HC9.out).mono ?_; rintro e w5 ⟨x5, rfl, h5, hb5⟩; have HX5 := Hd.mk h5; have HB5 := Hd.mk hb5; have HBY := Hd.mk (HB9.out.below hb5); clear h5 hb5)
        | (refine wpList_store_row rfl 56 (.tmp 6) (.tmp 33) rfl (w.heap.size + 1) x5.cells.toArray rfl rfl 56 zT.toArray HBY.out.b1 t_info rfl (t_all x5) ?_))
      have hb4 := HBY.out.b1.putRow x5.cells
      have hst := boxed_end HL3.out HT3.out w5 x5.cells.toArray
      refine bodyPost_ret (results_cell_slot rfl _ _ (w.heap.size + 1) _ _ rfl rfl (load_row hb4 Try.underlying56 rfl t_info)) rfl ?_
      rw [HP.out, HBQ.out]
      exact ⟨x5, A9, c9, rfl, HX5.out.step hst, (HF9.out.below HB5.out).step hst, HC9.out, HBY.out.row _⟩
  · have hf2 : thereP s a t = false := by simpa using hth
    have HTH := Hd.mk hf2
    have HP : Hd (readP s a t = s) := ⟨by unfold readP; rw [if_neg hth]⟩
    have HBQ : Hd (readB s a t = []) := ⟨by unfold readB; rw [if_neg hth]⟩
    clear hth hf2 h
    have T1 : Hd True := ⟨trivial⟩
    go_enter Try.func41, Try.ntmps41
    go_wp2_with (first
      | (go_at_call 49; clear T1; refine (rthere_calls (HX.out.below HBX.out.bel) a t).mono ?_; rw [HTH.out]; rintro e w1 ⟨rfl, hb1⟩; have HBX := Hd.mk (HBX.out.below hb1); clear hb1)
      | (refine wpList_load_row rfl 56 (.tmp 3) rfl w.heap.size rfl 56 _ (0, 0) _ HBX.out.b0 Try.underlying56 rfl t_info ?_)
      | (refine wpList_store_row rfl 56 (.tmp 6) (.tmp 15) rfl (w.heap.size + 1) #[.int .i64 blocks, .slice AS sS.length cS, .slice AQ sQ.length cQ, .int .u64 counter, .slice AL sL.length cL, .int .i64 reads, .bool armed, .int .i64 power, .bool dead, .slice AT sT.length cT] rfl rfl 56 zT.toArray HBX.out.b1 t_info (zT_size _ rfl) (t_one _ _ _ _ _ _ _ _ _ _ _ _ _ _ _ _ _ _) ?_))
    have hb4 := HBX.out.b1.putRow [.int .i64 blocks, .slice AS sS.length cS, .slice AQ sQ.length cQ, .int .u64 counter, .slice AL sL.length cL, .int .i64 reads, .bool armed, .int .i64 power, .bool dead, .slice AT sT.length cT]
    have hbw := HBX.out.row #[.int .i64 blocks, .slice AS sS.length cS, .slice AQ sQ.length cQ, .int .u64 counter, .slice AL sL.length cL, .int .i64 reads, .bool armed, .int .i64 power, .bool dead, .slice AT sT.length cT]
    refine bodyPost_ret (results_cell_slot rfl _ _ (w.heap.size + 1) _ _ rfl rfl (load_row hb4 Try.underlying56 rfl t_info)) rfl ?_
    rw [HP.out, HBQ.out]
    exact ⟨⟨blocks, AS, sS, cS, AQ, sQ, cQ, counter, AL, sL, cL, reads, armed, power, dead, AT, sT, cT⟩, none, 0, rfl, HX.out.below hbw, ⟨Rc.nil _ _, fun _ e _ => by cases e⟩, Nat.le_refl _, hbw⟩
set_option maxRecDepth 100000 in
set_option maxHeartbeats 8000000 in
theorem rlook_calls (h : Tm w K q x s) (hK : ∀ k, w.heap.size ≤ k → K k = 0) (hq : q ≤ 1000000) (hf : Few s) (i : Int) :
    Calls Try.prog 43 #[.agg x.cells.toArray, .int .i64 i] w (RetTR K q (lookP s i) (lookB s i) w) := by
  have HQ := Hd.mk hq
  have HK := Hd.mk hK
  have HRD : Hd (s.reads ≤ 1000000) := ⟨hf.reads⟩
  have HTL : Hd (s.trace.length ≤ 1000000) := ⟨hf.trace⟩
  obtain ⟨blocks, AS, sS, cS, AQ, sQ, cQ, counter, AL, sL, cL, reads, armed, power, dead, AT, sT, cT⟩ := x
  have HX := Hd.mk h
  unfold Td.cells
  dsimp only
  obtain ⟨W, hW, hb, hk0, hk1, hz⟩ := two_boxes w [.int .i64 blocks, .slice AS sS.length cS, .slice AQ sQ.length cQ, .int .u64 counter, .slice AL sL.length cL, .int .i64 reads, .bool armed, .int .i64 power, .bool dead, .slice AT sT.length cT]
  have HBX : Hd (Bx w [.int .i64 blocks, .slice AS sS.length cS, .slice AQ sQ.length cQ, .int .u64 counter, .slice AL sL.length cL, .int .i64 reads, .bool armed, .int .i64 power, .bool dead, .slice AT sT.length cT] W) := ⟨⟨hb, hk0, hk1⟩⟩
  obtain ⟨K3, hl3, _, ht3, hh3, hs3⟩ := boxed_start hb hz hK
  have HX3 := Hd.mk (h.step hs3)
  have HL3 := Hd.mk hl3
  have HT3 := Hd.mk ht3
  have HK3 := Hd.mk hh3
  have HS3 := Hd.mk hs3
  have HBW : Hd (Below W.heap.size W W) := ⟨Below.refl _ _⟩
  clear hb hk0 hk1 hz hK hq hf hl3 ht3 hh3 hs3
  by_cases hth : sealedP s i = true
  · have hab : s.dead = false ∧ (i = 0 ∨ i = 1) := sealed_is hth
    obtain ⟨ix, rfl⟩ : ∃ ix : Nat, i = (ix : Int) := ⟨i.toNat, by omega⟩
    have hql : sQ.length = 2 := by have := congrArg List.length h.eq; simpa using this
    have hil : ix < sQ.length := by omega
    have hdd : dead = false := h.e0.2.2.2.2.2.trans hab.1
    have hsb : (sQ[ix]).b = sealOf s (ix : Int) := by
      have e := congrArg (fun z : List (List UInt8) => z[ix]?) h.eq
      have e : (sQ.map (·.b))[ix]? = ([s.s0, s.s1] : List (List UInt8))[ix]? := e
      rw [List.getElem?_map, List.getElem?_eq_getElem hil] at e
      rcases (show ix = 0 ∨ ix = 1 by omega) with rfl | rfl
      · have := Option.some.inj e; exact this
      · have := Option.some.inj e; exact this
    subst hdd
    obtain ⟨bA, off, rfl, hbb, hra⟩ := rcK_form rw_len (by decide) h.rq.rc (show 0 < sQ.length by omega)
    have hy := hra ix hil
    have hyf := h.hq _ (List.getElem_mem hil)
    obtain ⟨y, hye⟩ : ∃ y, sQ[ix] = y := ⟨_, rfl⟩
    rw [hye] at hy hyf hsb
    obtain ⟨yA, yb, yc⟩ := y
    have HQL : Hd (sQ.length = 2) := ⟨hql⟩
    have HIX : Hd (ix < sQ.length) := ⟨hil⟩
    have HYW : Hd (∀ W', Below w.heap.size w W' → W'.cell? ⟨bA, off + ix, none⟩ = some (.slice yA yb.length yc)) := ⟨fun W' hb => by have := hy W' hb 0 _ rfl; simpa using this⟩
    have HYF : Hd (Fr W K3 yA yb) := ⟨hyf.1.step HS3.out⟩
    have HYC : Hd (yb.length ≤ yc) := ⟨hyf.2⟩
    obtain ⟨bb, hbb⟩ : ∃ bb, toldB s yb = bb := ⟨_, rfl⟩
    have HBB := Hd.mk hbb
    replace hsb : yb = sealOf s (ix : Int) := hsb
    have HP : Hd (lookP s (ix : Int) = noteP (toldP s) 3 (ix : Int) 0 bb) := ⟨by unfold lookP; rw [if_pos hth, ← hsb, hbb]⟩
    have HBQ : Hd (lookB s (ix : Int) = bb) := ⟨by unfold lookB; rw [if_pos hth, ← hsb, hbb]⟩
    clear hth hab hql hil hra hy hyf hye hsb hbb h
    have q8 := HBX.out.b0.cell (i := 8) rfl
    have hi0 : ¬ (ix : Int) < 0 := by omega
    have hi1 : ¬ (ix : Int) > 1 := by have := HIX.out; have := HQL.out; omega
    go_enter Try.func43, Try.ntmps43
    go_wp2_with (fail)
    try rw [hW]
    clear hW q8 hi0 hi1
    have HX1 := Hd.mk (HX3.out.below HBW.out)
    have HBK : Hd (∀ w6, Below W.heap.size W w6 → Blk w6 w.heap.size 56 [.int .i64 blocks, .slice AS sS.length cS, .slice (some ⟨bA, off, none⟩) sQ.length cQ, .int .u64 counter, .slice AL sL.length cL, .int .i64 reads, .bool armed, .int .i64 power, .bool false, .slice AT sT.length cT]) := ⟨fun w6 hb => HBX.out.b0.below hb HBX.out.b0.lt⟩
    have HY : Hd (∀ w6, Below W.heap.size W w6 → w6.cell? ⟨bA, off + ix, none⟩ = some (.slice yA yb.length yc)) := ⟨fun w6 hb => HYW.out w6 (below_then HBX.out.bel HBX.out.bel.size hb)⟩
    have HYF := Hd.mk (HYF.out.below HBW.out)
    refine region_stp (VRLook w.heap.size bA off ix blocks AS sS cS (some ⟨bA, off, none⟩) sQ cQ counter AL sL cL reads armed power false AT sT cT yA yb yc) (fun L Wx f => CSE 6 10 11 W K3 (RB q (toldP s) bb) L Wx f ∧ LK [(7, 6, 0), (8, 7, 1), (9, 7, 2), (12, 9, 0)] L f) NoR (by kernel_rfl) (by kernel_rfl) (by kernel_rfl) (by kernel_rfl) (fun f => ⟨CSE.start (fun k hk => HK3.out k (Nat.le_trans HBW.out.size hk)) f, LK.start _ f⟩) ?stab ?steps ?fin
    case stab => intro i j w1 w2 v o ho hij hwt hR h; exact h
    case steps =>
      refine StepsG.cons ?_ (StepsG.cons ?_ (StepsG.cons ?_ (StepsG.cons ?_ (StepsG.cons ?_ (StepsG.cons ?_ (StepsG.cons ?_ (StepsG.cons ?_ (StepsG.cons ?_ (StepsG.cons ?_ (StepsG.cons ?_ (StepsG.cons ?_ (StepsG.cons ?_ StepsG.nil))))))))))))
      · intro L f A w6 Q hL hG hsz hlow hun hnl hp
        have e2 : A.tmps.getD 2 undef = Value.pointer (some ⟨w.heap.size, 0, none⟩) := hlow 2 rfl
        have hbk := HBK.out w6 hG.1.bel
        clear hlow hun hnl hp
        refine wpOp_go rfl rfl (wp_load_row 56 (.tmp 2) rfl (w.heap.size) ?_ 56 #[.int .i64 blocks, .slice AS sS.length cS, .slice (some ⟨bA, off, none⟩) sQ.length cQ, .int .u64 counter, .slice AL sL.length cL, .int .i64 reads, .bool armed, .int .i64 power, .bool false, .slice AT sT.length cT] (0, 0) _ hbk Try.underlying56 rfl t_info ⟨_, rfl, ⟨hG.1.past 0 _ (by decide), hG.2.past 0 _ (by decide) (by simp)⟩, ⟨⟩, rfl⟩)
        exact e2
      · intro L f A w6 Q hL hG hsz hlow hun hnl hp
        have e2 : A.tmps.getD 2 undef = Value.pointer (some ⟨w.heap.size, 0, none⟩) := hlow 2 rfl
        clear hlow hun hnl hp
        refine wpOp_go rfl rfl ?_
        go_simp
        first | exact ⟨_, rfl, ⟨hG.1.past 1 _ (by decide), hG.2.past 1 _ (by decide) (by simp)⟩, ⟨⟩, rfl⟩ | exact ⟨⟨hG.1.past 1 _ (by decide), hG.2.past 1 _ (by decide) (by simp)⟩, ⟨⟩, rfl⟩ | exact ⟨⟨hG.1.past 1 _ (by decide), hG.2.past 1 _ (by decide) (by simp)⟩, rfl⟩ | exact ⟨hG.1.past 1 _ (by decide), hG.2.past 1 _ (by decide) (by simp)⟩ | exact ⟨⟨hG.1.past 1 _ (by decide), hG.2.past 1 _ (by decide) (by simp)⟩, ⟨⟩⟩ | exact ⟨_, rfl, ⟨hG.1.past 1 _ (by decide), hG.2.past 1 _ (by decide) (by simp)⟩, ⟨⟩, trivial⟩ | exact ⟨_, rfl, ⟨⟩, rfl⟩ | exact ⟨⟨⟩, rfl⟩
      · intro L f A w6 Q hL hG hsz hlow hun hnl hp
        have f1 : f 1 = Value.pointer (some ⟨w.heap.size, 2, none⟩) := (hp 1 rfl).2.1
        have e21 : A.tmps.getD 21 undef = Value.pointer (some ⟨w.heap.size, 2, none⟩) := ((hp 1 rfl).2.2 21 rfl).trans f1
        have hcc := (HBK.out w6 hG.1.bel).cell (i := 2) (v := .slice (some ⟨bA, off, none⟩) sQ.length cQ) rfl
        clear hlow hun hnl hp
        refine wpOp_go rfl rfl ?_
        go_simp
        first | exact ⟨_, rfl, ⟨hG.1.past 2 _ (by decide), hG.2.past 2 _ (by decide) (by simp)⟩, ⟨⟩, rfl⟩ | exact ⟨⟨hG.1.past 2 _ (by decide), hG.2.past 2 _ (by decide) (by simp)⟩, ⟨⟩, rfl⟩ | exact ⟨⟨hG.1.past 2 _ (by decide), hG.2.past 2 _ (by decide) (by simp)⟩, rfl⟩ | exact ⟨hG.1.past 2 _ (by decide), hG.2.past 2 _ (by decide) (by simp)⟩ | exact ⟨⟨hG.1.past 2 _ (by decide), hG.2.past 2 _ (by decide) (by simp)⟩, ⟨⟩⟩ | exact ⟨_, rfl, ⟨hG.1.past 2 _ (by decide), hG.2.past 2 _ (by decide) (by simp)⟩, ⟨⟩, trivial⟩ | exact ⟨_, rfl, ⟨⟩, rfl⟩ | exact ⟨⟨⟩, rfl⟩
      · intro L f A w6 Q hL hG hsz hlow hun hnl hp
        have e1 : A.tmps.getD 1 undef = Value.int .i64 (ix : Int) := hlow 1 rfl
        clear hlow hun hnl hp
        refine wpOp_go rfl rfl ?_
        go_simp
        first | exact ⟨_, rfl, ⟨hG.1.past 3 _ (by decide), hG.2.past 3 _ (by decide) (by simp)⟩, ⟨⟩, rfl⟩ | exact ⟨⟨hG.1.past 3 _ (by decide), hG.2.past 3 _ (by decide) (by simp)⟩, ⟨⟩, rfl⟩ | exact ⟨⟨hG.1.past 3 _ (by decide), hG.2.past 3 _ (by decide) (by simp)⟩, rfl⟩ | exact ⟨hG.1.past 3 _ (by decide), hG.2.past 3 _ (by decide) (by simp)⟩ | exact ⟨⟨hG.1.past 3 _ (by decide), hG.2.past 3 _ (by decide) (by simp)⟩, ⟨⟩⟩ | exact ⟨_, rfl, ⟨hG.1.past 3 _ (by decide), hG.2.past 3 _ (by decide) (by simp)⟩, ⟨⟩, trivial⟩ | exact ⟨_, rfl, ⟨⟩, rfl⟩ | exact ⟨⟨⟩, rfl⟩
      · intro L f A w6 Q hL hG hsz hlow hun hnl hp
        have f2 : f 2 = Value.slice (some ⟨bA, off, none⟩) sQ.length cQ := (hp 2 rfl).2.1
        have e22 : A.tmps.getD 22 undef = Value.slice (some ⟨bA, off, none⟩) sQ.length cQ := ((hp 2 rfl).2.2 22 rfl).trans f2
        have f3 : f 3 = Value.int .i64 (ix : Int) := (hp 3 rfl).2.1
        have e23 : A.tmps.getD 23 undef = Value.int .i64 (ix : Int) := ((hp 3 rfl).2.2 23 rfl).trans f3
        have hix : ix < sQ.length := HIX.out
        have hixi : (ix : Int) < (sQ.length : Int) := by omega
        clear hlow hun hnl hp
        refine wpOp_go rfl rfl ?_
        go_simp
        first | exact ⟨_, rfl, ⟨hG.1.past 4 _ (by decide), hG.2.past 4 _ (by decide) (by simp)⟩, ⟨⟩, rfl⟩ | exact ⟨⟨hG.1.past 4 _ (by decide), hG.2.past 4 _ (by decide) (by simp)⟩, ⟨⟩, rfl⟩ | exact ⟨⟨hG.1.past 4 _ (by decide), hG.2.past 4 _ (by decide) (by simp)⟩, rfl⟩ | exact ⟨hG.1.past 4 _ (by decide), hG.2.past 4 _ (by decide) (by simp)⟩ | exact ⟨⟨hG.1.past 4 _ (by decide), hG.2.past 4 _ (by decide) (by simp)⟩, ⟨⟩⟩ | exact ⟨_, rfl, ⟨hG.1.past 4 _ (by decide), hG.2.past 4 _ (by decide) (by simp)⟩, ⟨⟩, trivial⟩ | exact ⟨_, rfl, ⟨⟩, rfl⟩ | exact ⟨⟨⟩, rfl⟩
      · intro L f A w6 Q hL hG hsz hlow hun hnl hp
        have f4 : f 4 = Value.pointer (some ⟨bA, off + ix, none⟩) := (hp 4 rfl).2.1
        have e24 : A.tmps.getD 24 undef = Value.pointer (some ⟨bA, off + ix, none⟩) := ((hp 4 rfl).2.2 24 rfl).trans f4
        have hcc := HY.out w6 hG.1.bel
        clear hlow hun hnl hp
        refine wpOp_go rfl rfl ?_
        go_simp
        first | exact ⟨_, rfl, ⟨hG.1.past 5 _ (by decide), hG.2.past 5 _ (by decide) (by simp)⟩, ⟨⟩, rfl⟩ | exact ⟨⟨hG.1.past 5 _ (by decide), hG.2.past 5 _ (by decide) (by simp)⟩, ⟨⟩, rfl⟩ | exact ⟨⟨hG.1.past 5 _ (by decide), hG.2.past 5 _ (by decide) (by simp)⟩, rfl⟩ | exact ⟨hG.1.past 5 _ (by decide), hG.2.past 5 _ (by decide) (by simp)⟩ | exact ⟨⟨hG.1.past 5 _ (by decide), hG.2.past 5 _ (by decide) (by simp)⟩, ⟨⟩⟩ | exact ⟨_, rfl, ⟨hG.1.past 5 _ (by decide), hG.2.past 5 _ (by decide) (by simp)⟩, ⟨⟩, trivial⟩ | exact ⟨_, rfl, ⟨⟩, rfl⟩ | exact ⟨⟨⟩, rfl⟩
      · intro L f A w6 Q hL hG hsz hlow hun hnl hp
        have f0 : f 0 = Value.agg #[.int .i64 blocks, .slice AS sS.length cS, .slice (some ⟨bA, off, none⟩) sQ.length cQ, .int .u64 counter, .slice AL sL.length cL, .int .i64 reads, .bool armed, .int .i64 power, .bool false, .slice AT sT.length cT] := (hp 0 rfl).2.1
        have e20 : A.tmps.getD 20 undef = Value.agg #[.int .i64 blocks, .slice AS sS.length cS, .slice (some ⟨bA, off, none⟩) sQ.length cQ, .int .u64 counter, .slice AL sL.length cL, .int .i64 reads, .bool armed, .int .i64 power, .bool false, .slice AT sT.length cT] := ((hp 0 rfl).2.2 20 rfl).trans f0
        have f5 : f 5 = Value.slice yA yb.length yc := (hp 5 rfl).2.1
        have e25 : A.tmps.getD 25 undef = Value.slice yA yb.length yc := ((hp 5 rfl).2.2 25 rfl).trans f5
        have n7 := (hnl 7 6 hL rfl)
        have n11 := (hnl 11 6 hL rfl)
        clear hlow hun hnl hp
        refine wpOp_go rfl rfl ?_
        go_simp
        refine hG.1.call (RB.last q (toldP s) bb) (by decide) n11 (fun K2 hi hx => ?_) ?_
        · refine (rtold_calls (HX1.out.step (Stp.into hG.1.bel hx)) hi HQ.out HRD.out yA _ yc yb (HYF.out.step (Stp.into hG.1.bel hx)) rfl HYC.out).mono ?_
          rintro e w7 ⟨x7, A7, c7, rfl, h1, h2, h3, h4⟩
          rw [HBB.out] at h2 h3 ⊢
          exact ⟨_, _, rfl, ⟨x7, rfl, A7, c7, rfl, h1, h2, h3⟩, h4⟩
        intro v w7 hC
        exact ⟨_, rfl, ⟨hC, hG.2.past 6 _ (by decide) (by simp [n7])⟩, ⟨⟩, trivial⟩
      · intro L f A w6 Q hL hG hsz hlow hun hnl hp
        have e26 : A.tmps.getD 26 undef = f 6 := (hp 6 rfl).2.2 26 rfl
        have v6 := (hp 6 rfl).2.1
        have n8 := (hnl 8 7 hL rfl)
        have n9 := (hnl 9 7 hL rfl)
        clear hlow hun hnl hp
        refine wpOp_go rfl rfl ?_
        go_simp
        exact ⟨_, rfl, ⟨hG.1.past 7 _ (by decide), hG.2.at 7 6 0 (by decide) (by simp) (by simp [n8, n9]) (by simp)⟩, ⟨⟩, trivial⟩
      · intro L f A w6 Q hL hG hsz hlow hun hnl hp
        have e19 : A.tmps.getD 19 undef = f 7 := (hp 7 rfl).2.2 19 rfl
        have v7 := (hp 7 rfl).2.1
        have hmv := hG.2 (7, 6, 0) (by simp) (hp 7 rfl).1
        have lic : L 6 = true := by
          cases h : L 6 with
          | true => rfl
          | false => have := hnl 7 6 h rfl; rw [(hp 7 rfl).1] at this; cases this
        obtain ⟨K9, cs9, h9⟩ := hG.1.told lic
        obtain ⟨x9, hcs9, A9, c9, hsh9, hTm9, hFr9, hle9⟩ := h9
        have hmv2 : f 7 = .tuple #[.agg x9.cells.toArray, .slice A9 bb.length c9] := hmv.trans hsh9
        rw [hmv2] at e19
        have hpj : prj 1 (f 7) = .agg x9.cells.toArray := by rw [hmv2]; rfl
        have hLK := hG.2.at 8 7 1 (by decide) (by simp) (by simp) (by simp)
        rw [hpj] at hLK
        clear hlow hun hnl hp
        refine wpOp_go rfl rfl ?_
        go_simp
        exact ⟨_, rfl, ⟨hG.1.past 8 _ (by decide), hLK⟩, ⟨⟩, trivial⟩
      · intro L f A w6 Q hL hG hsz hlow hun hnl hp
        have e19 : A.tmps.getD 19 undef = f 7 := (hp 7 rfl).2.2 19 rfl
        have v7 := (hp 7 rfl).2.1
        have n12 := (hnl 12 9 hL rfl)
        have hmv := hG.2 (7, 6, 0) (by simp) (hp 7 rfl).1
        have lic : L 6 = true := by
          cases h : L 6 with
          | true => rfl
          | false => have := hnl 7 6 h rfl; rw [(hp 7 rfl).1] at this; cases this
        obtain ⟨K9, cs9, h9⟩ := hG.1.told lic
        obtain ⟨x9, hcs9, A9, c9, hsh9, hTm9, hFr9, hle9⟩ := h9
        have hmv2 : f 7 = .tuple #[.agg x9.cells.toArray, .slice A9 bb.length c9] := hmv.trans hsh9
        rw [hmv2] at e19
        have hpj : prj 2 (f 7) = .slice A9 bb.length c9 := by rw [hmv2]; rfl
        have hLK := hG.2.at 9 7 2 (by decide) (by simp) (by simp [n12]) (by simp)
        rw [hpj] at hLK
        clear hlow hun hnl hp
        refine wpOp_go rfl rfl ?_
        go_simp
        exact ⟨_, rfl, ⟨hG.1.past 9 _ (by decide), hLK⟩, ⟨⟩, trivial⟩
      · intro L f A w6 Q hL hG hsz hlow hun hnl hp
        have n11 := (hnl 11 10 hL rfl)
        clear hlow hun hnl hp
        refine wpOp_go rfl rfl ?_
        go_simp
        exact ⟨_, rfl, ⟨hG.1.alloc (RB.last q (toldP s) bb) (by decide) n11, hG.2.past 10 _ (by decide) (by simp)⟩, ⟨⟩, trivial⟩
      · intro L f A w6 Q hL hG hsz hlow hun hnl hp
        have e6 : A.tmps.getD 6 undef = f 10 := (hp 10 rfl).2.2 6 rfl
        have v10 := (hp 10 rfl).2.1
        have e27 : A.tmps.getD 27 undef = f 8 := (hp 8 rfl).2.2 27 rfl
        have v8 := (hp 8 rfl).2.1
        have hmv := hG.2 (7, 6, 0) (by simp) (hp 7 rfl).1
        have lic := (hp 6 rfl).1
        obtain ⟨K9, cs9, h9⟩ := hG.1.told lic
        have h90 := h9
        obtain ⟨x9, hcs9, A9, c9, hsh9, hTm9, hFr9, hle9⟩ := h9
        have hx0 := hG.2 (8, 7, 1) (by simp) (hp 8 rfl).1
        have hmv2 : f 7 = .tuple #[.agg x9.cells.toArray, .slice A9 bb.length c9] := hmv.trans hsh9
        rw [hmv2] at hx0
        have hx0 : f 8 = .agg x9.cells.toArray := hx0
        obtain ⟨g9, hg9, hz9, hS⟩ := hG.1.store (RB.last q (toldP s) bb) (by decide) lic (hp 10 rfl).1 hL x9.cells (fun K2 hh => RB.same hsh9 hh)
        rw [hg9] at e6
        rw [hx0] at e27
        clear hlow hun hnl hp
        refine wpOp_go rfl rfl (wp_store_row 56 (.tmp 6) (.tmp 27) rfl g9 x9.cells.toArray e6 e27 56 zT.toArray hz9 t_info rfl (t_all x9) ⟨undef, rfl, ⟨hS undef, hG.2.past 11 _ (by decide) (by simp)⟩, ⟨⟩, trivial⟩)
      · intro L f A w6 Q hL hG hsz hlow hun hnl hp
        have e28 : A.tmps.getD 28 undef = f 9 := (hp 9 rfl).2.2 28 rfl
        have v9 := (hp 9 rfl).2.1
        clear hlow hun hnl hp
        refine wpOp_go rfl rfl ?_
        go_simp
        exact ⟨_, rfl, ⟨hG.1.past 12 _ (by decide), hG.2.at 12 9 0 (by decide) (by simp) (by simp) (by simp)⟩, ⟨⟩, trivial⟩
    case fin =>
      intro L f w9 hLL hG hV
      obtain ⟨g9, cs9, hg9, hge9, ⟨x9, hcs9, A9, c9, hsh9, hTm9, hFr9, hle9⟩, hbk9, hbel9⟩ := hG.1.done (RB.last q (toldP s) bb) (hLL 6 (by simp)) (hLL 10 (by simp)) (hLL 11 (by simp))
      have lk := fun t ht hl => hG.2 t ht hl
      have e1 := lk (7, 6, 0) (by simp) (hLL 7 (by simp))
      have e2 := lk (9, 7, 2) (by simp) (hLL 9 (by simp))
      have e3 := lk (12, 9, 0) (by simp) (hLL 12 (by simp))
      have e1 : f 7 = f 6 := e1
      rw [hsh9] at e1
      rw [e1] at e2
      have e2 : f 9 = .slice A9 bb.length c9 := e2
      have e3 : f 12 = f 9 := e3
      rw [e2] at e3
      subst hcs9
      have HB9 := Hd.mk (HBX.out.below hbel9)
      have HBK9 := Hd.mk hbk9
      have HT9 := Hd.mk hTm9
      have HF9 := Hd.mk hFr9
      have HC9 := Hd.mk hle9
      have HK9 : Hd (∀ k, w9.heap.size ≤ k → K3 k = 0) := ⟨fun k hk => HK3.out k (Nat.le_trans (Nat.le_trans HBW.out.size hbel9.size) hk)⟩
      clear hV hG hLL hsh9 hTm9 hFr9 hle9 hbk9 hbel9 e1 e2 lk HBX HX1 HBK HY HYF
      simp only [fillD, Act.put, List.setIfInBounds_toArray, List.set_cons_zero, List.set_cons_succ]
      rw [hg9, e3]
      clear hg9 e3
      go_wp2_with (first
        | (refine wpList_load_row rfl 56 (.tmp 6) rfl g9 rfl 56 _ (0, 0) _ HBK9.out Try.underlying56 rfl t_info ?_)
        | (go_at_call 51; refine (rnote_calls HT9.out HK9.out HTL.out 3 (ix : Int) 0 A9 _ c9 bb HF9.out rfl HC9.out).mono ?_; rintro e w5 ⟨x5, rfl, h5, hb5⟩; have HX5 := Hd.mk h5; have HB5 := Hd.mk hb5; have HBY := Hd.mk (HB9.out.below hb5); clear h5 hb5)
        | (refine wpList_store_row rfl 56 (.tmp 4) (.tmp 32) rfl (w.heap.size + 1) x5.cells.toArray rfl rfl 56 zT.toArray HBY.out.b1 t_info rfl (t_all x5) ?_))
      have hb4 := HBY.out.b1.putRow x5.cells
      have hst := boxed_end HL3.out HT3.out w5 x5.cells.toArray
      refine bodyPost_ret (results_cell_slot rfl _ _ (w.heap.size + 1) _ _ rfl rfl (load_row hb4 Try.underlying56 rfl t_info)) rfl ?_
      rw [HP.out, HBQ.out]
      exact ⟨x5, A9, c9, rfl, HX5.out.step hst, (HF9.out.below HB5.out).step hst, HC9.out, HBY.out.row _⟩
  · have hf2 : sealedP s i = false := by simpa using hth
    have HTH := Hd.mk hf2
    have HP : Hd (lookP s i = s) := ⟨by unfold lookP; rw [if_neg hth]⟩
    have HBQ : Hd (lookB s i = []) := ⟨by unfold lookB; rw [if_neg hth]⟩
    have hdi : s.dead = true ∨ (s.dead = false ∧ (i < 0 ∨ 1 < i)) := by
      unfold sealedP at hf2
      cases hd : s.dead
      · rw [hd] at hf2
        simp only [Bool.not_false, Bool.true_and, Bool.or_eq_false_iff, decide_eq_false_iff_not] at hf2
        exact .inr ⟨rfl, by omega⟩
      · exact .inl rfl
    have q8 := HBX.out.b0.cell (i := 8) rfl
    have hdx : dead = s.dead := h.e0.2.2.2.2.2
    clear hth hf2 HTH h
    rcases hdi with hd | ⟨hd, hi | hi⟩
    · obtain rfl : dead = true := hdx.trans hd
      clear hdx hd
      go_enter Try.func43, Try.ntmps43
      go_wp2_with (first
        | (refine wpList_load_row rfl 56 (.tmp 2) rfl w.heap.size rfl 56 _ (0, 0) _ HBX.out.b0 Try.underlying56 rfl t_info ?_)
        | (refine wpList_store_row rfl 56 (.tmp 4) (.tmp 18) rfl (w.heap.size + 1) #[.int .i64 blocks, .slice AS sS.length cS, .slice AQ sQ.length cQ, .int .u64 counter, .slice AL sL.length cL, .int .i64 reads, .bool armed, .int .i64 power, .bool true, .slice AT sT.length cT] rfl rfl 56 zT.toArray HBX.out.b1 t_info (zT_size _ rfl) (t_one _ _ _ _ _ _ _ _ _ _ _ _ _ _ _ _ _ _) ?_))
      have hb4 := HBX.out.b1.putRow [.int .i64 blocks, .slice AS sS.length cS, .slice AQ sQ.length cQ, .int .u64 counter, .slice AL sL.length cL, .int .i64 reads, .bool armed, .int .i64 power, .bool true, .slice AT sT.length cT]
      have hbw := HBX.out.row #[.int .i64 blocks, .slice AS sS.length cS, .slice AQ sQ.length cQ, .int .u64 counter, .slice AL sL.length cL, .int .i64 reads, .bool armed, .int .i64 power, .bool true, .slice AT sT.length cT]
      refine bodyPost_ret (results_cell_slot rfl _ _ (w.heap.size + 1) _ _ rfl rfl (load_row hb4 Try.underlying56 rfl t_info)) rfl ?_
      rw [HP.out, HBQ.out]
      exact ⟨⟨blocks, AS, sS, cS, AQ, sQ, cQ, counter, AL, sL, cL, reads, armed, power, true, AT, sT, cT⟩, none, 0, rfl, HX.out.below hbw, ⟨Rc.nil _ _, fun _ e _ => by cases e⟩, Nat.le_refl _, hbw⟩
    · obtain rfl : dead = false := hdx.trans hd
      clear hdx hd
      go_enter Try.func43, Try.ntmps43
      go_wp2_with (first
        | (refine wpList_load_row rfl 56 (.tmp 2) rfl w.heap.size rfl 56 _ (0, 0) _ HBX.out.b0 Try.underlying56 rfl t_info ?_)
        | (refine wpList_store_row rfl 56 (.tmp 4) (.tmp 18) rfl (w.heap.size + 1) #[.int .i64 blocks, .slice AS sS.length cS, .slice AQ sQ.length cQ, .int .u64 counter, .slice AL sL.length cL, .int .i64 reads, .bool armed, .int .i64 power, .bool false, .slice AT sT.length cT] rfl rfl 56 zT.toArray HBX.out.b1 t_info (zT_size _ rfl) (t_one _ _ _ _ _ _ _ _ _ _ _ _ _ _ _ _ _ _) ?_))
      have hb4 := HBX.out.b1.putRow [.int .i64 blocks, .slice AS sS.length cS, .slice AQ sQ.length cQ, .int .u64 counter, .slice AL sL.length cL, .int .i64 reads, .bool armed, .int .i64 power, .bool false, .slice AT sT.length cT]
      have hbw := HBX.out.row #[.int .i64 blocks, .slice AS sS.length cS, .slice AQ sQ.length cQ, .int .u64 counter, .slice AL sL.length cL, .int .i64 reads, .bool armed, .int .i64 power, .bool false, .slice AT sT.length cT]
      refine bodyPost_ret (results_cell_slot rfl _ _ (w.heap.size + 1) _ _ rfl rfl (load_row hb4 Try.underlying56 rfl t_info)) rfl ?_
      rw [HP.out, HBQ.out]
      exact ⟨⟨blocks, AS, sS, cS, AQ, sQ, cQ, counter, AL, sL, cL, reads, armed, power, false, AT, sT, cT⟩, none, 0, rfl, HX.out.below hbw, ⟨Rc.nil _ _, fun _ e _ => by cases e⟩, Nat.le_refl _, hbw⟩
    · obtain rfl : dead = false := hdx.trans hd
      have hi0 : ¬ i < 0 := by omega
      have hi1 : i > 1 := hi
      clear hdx hd
      go_enter Try.func43, Try.ntmps43
      go_wp2_with (first
        | (refine wpList_load_row rfl 56 (.tmp 2) rfl w.heap.size rfl 56 _ (0, 0) _ HBX.out.b0 Try.underlying56 rfl t_info ?_)
        | (refine wpList_store_row rfl 56 (.tmp 4) (.tmp 18) rfl (w.heap.size + 1) #[.int .i64 blocks, .slice AS sS.length cS, .slice AQ sQ.length cQ, .int .u64 counter, .slice AL sL.length cL, .int .i64 reads, .bool armed, .int .i64 power, .bool false, .slice AT sT.length cT] rfl rfl 56 zT.toArray HBX.out.b1 t_info (zT_size _ rfl) (t_one _ _ _ _ _ _ _ _ _ _ _ _ _ _ _ _ _ _) ?_))
      have hb4 := HBX.out.b1.putRow [.int .i64 blocks, .slice AS sS.length cS, .slice AQ sQ.length cQ, .int .u64 counter, .slice AL sL.length cL, .int .i64 reads, .bool armed, .int .i64 power, .bool false, .slice AT sT.length cT]
      have hbw := HBX.out.row #[.int .i64 blocks, .slice AS sS.length cS, .slice AQ sQ.length cQ, .int .u64 counter, .slice AL sL.length cL, .int .i64 reads, .bool armed, .int .i64 power, .bool false, .slice AT sT.length cT]
      refine bodyPost_ret (results_cell_slot rfl _ _ (w.heap.size + 1) _ _ rfl rfl (load_row hb4 Try.underlying56 rfl t_info)) rfl ?_
      rw [HP.out, HBQ.out]
      exact ⟨⟨blocks, AS, sS, cS, AQ, sQ, cQ, counter, AL, sL, cL, reads, armed, power, false, AT, sT, cT⟩, none, 0, rfl, HX.out.below hbw, ⟨Rc.nil _ _, fun _ e _ => by cases e⟩, Nat.le_refl _, hbw⟩
end
end Go.Proofs.Ytffhncpgknkkaaa
/-! from W06Rz -/
namespace Go.Proofs.Ytffhncpgknkkaaa
open Go.RowKit Go.Sac
set_option linter.unusedVariables false
set_option linter.unusedSimpArgs false
theorem Bx.far {w W : World} {X : List Value} (h : Bx w X W) (p : Addr) (hp : w.heap.size + 1 < p.block) (v : Value) : Bx w X (W.setCell p v) :=
  ⟨h.bel.setCell (by omega) v, h.b0.far (by omega) v, h.b1.far (by omega) v⟩
theorem Stp.tagged {K : Nat → Nat} (w : World) (p : Addr) (hp : K p.block ≠ 0) (v : Value) : Stp K K w (w.setCell p v) :=
  ⟨rfl, rfl, rfl, by simp, fun k _ hk => Below.heap_setCell w p v k (fun e => hp (by rw [← e]; exact hk)), fun _ _ h => h⟩
/-- a box more -/
theorem box_made {w : World} {K : Nat → Nat} (hK : ∀ k, w.heap.size ≤ k → K k = 0) (x : Td) : ∃ w2, (w.alloc (.cells #[.int .i64 0, .slice none 0 0, .slice none 0 0, .int .u64 0, .slice none 0 0, .int .i64 0, .bool false, .int .i64 0, .bool false, .slice none 0 0] 56)).setRow w.heap.size x.cells.toArray = w2 ∧
    ∃ K2 : Nat → Nat, (∀ k, K2 k = 0 → K k = 0) ∧ K2 w.heap.size ≠ 0 ∧ (∀ k, w2.heap.size ≤ k → K2 k = 0) ∧ Stp K K2 w w2 ∧ Blk w2 w.heap.size 56 x.cells ∧ Below w.heap.size w w2 ∧ w2.heap.size = w.heap.size + 1 ∧ ∀ k, k ≠ w.heap.size → K2 k = K k := by
  obtain ⟨w2, h1, h2, h3, h4⟩ := arr_made w 56 zT x.cells rfl
  refine ⟨w2, h1, fun k => if k = w.heap.size then 1 else K k, fun k hk => ?_, by simp, fun k hk => ?_, Stp.into h2 fun k hk => if_neg (by omega), h3, h2, h4, fun k hk => if_neg hk⟩
  · by_cases e : k = w.heap.size
    · simp [e] at hk
    · simpa [e] using hk
  · show (if k = w.heap.size then 1 else K k) = 0
    rw [if_neg (by omega)]
    exact hK k (by omega)
section
variable {w : World} {K : Nat → Nat} {q : Nat} {x : Td} {s : Wd}
theorem Tm.count (h : Tm w K q x s) {n : Int} (h0 : 0 ≤ n) (h1 : n < 18446744073709551616) : Tm w K q { x with counter := n } { s with counter := n } :=
  { h with e0 := ⟨h.e0.1, rfl, h.e0.2.2⟩, nm := ⟨h.nm.1, h.nm.2.1, h0, h1, h.nm.2.2.2.2⟩ }
theorem takes_same (s : Wd) (n : Int) : (takesP s n).counter = s.counter ∧ (takesP s n).trace = s.trace ∧ (takesP s n).blocks = s.blocks ∧ (takesP s n).slots = s.slots ∧ (takesP s n).s0 = s.s0 ∧ (takesP s n).s1 = s.s1 := by unfold takesP; split <;> exact ⟨rfl, rfl, rfl, rfl, rfl, rfl⟩
theorem cells_split (x : Td) : x.cells = [.int .i64 x.blocks, .slice x.AS x.S.length x.cS, .slice x.AQ x.Q.length x.cQ, .int .u64 x.counter, .slice x.AL x.L.length x.cL, .int .i64 x.reads, .bool x.armed, .int .i64 x.power, .bool x.dead, .slice x.AT x.T.length x.cT] := rfl
set_option maxRecDepth 100000 in
set_option maxHeartbeats 8000000 in
theorem rbump_calls (h : Tm w K q x s) (hK : ∀ k, w.heap.size ≤ k → K k = 0) (hf : Few s) :
    Calls Try.prog 45 #[.agg x.cells.toArray] w (RetTB K q (bumpP s) (bumpR s) w) := by
  have HTL : Hd (s.trace.length ≤ 1000000) := ⟨hf.trace⟩
  obtain ⟨blocks, AS, sS, cS, AQ, sQ, cQ, counter, AL, sL, cL, reads, armed, power, dead, AT, sT, cT⟩ := x
  have HX := Hd.mk h
  unfold Td.cells
  dsimp only
  obtain ⟨W, hW, hb, hk0, hk1, hz⟩ := two_boxes w [.int .i64 blocks, .slice AS sS.length cS, .slice AQ sQ.length cQ, .int .u64 counter, .slice AL sL.length cL, .int .i64 reads, .bool armed, .int .i64 power, .bool dead, .slice AT sT.length cT]
  have HBX : Hd (Bx w [.int .i64 blocks, .slice AS sS.length cS, .slice AQ sQ.length cQ, .int .u64 counter, .slice AL sL.length cL, .int .i64 reads, .bool armed, .int .i64 power, .bool dead, .slice AT sT.length cT] W) := ⟨⟨hb, hk0, hk1⟩⟩
  obtain ⟨K3, hl3, _, ht3, hh3, hs3⟩ := boxed_start hb hz hK
  have HX3 := Hd.mk (h.step hs3)
  have HL3 := Hd.mk hl3
  have HT3 := Hd.mk ht3
  have HK3 := Hd.mk hh3
  have hdx : dead = s.dead := h.e0.2.2.2.2.2
  have hcx : counter = s.counter := h.e0.2.1
  clear hb hk0 hk1 hz hK hf hl3 ht3 hh3 hs3
  have q8 := HBX.out.b0.cell (i := 8) rfl
  have q3 := HBX.out.b0.cell (i := 3) rfl
  by_cases hd : s.dead = true
  · have HP : Hd (bumpP s = s) := ⟨by unfold bumpP; rw [if_pos hd]⟩
    have HR : Hd (bumpR s = false) := ⟨by unfold bumpR; rw [hd]; rfl⟩
    obtain rfl : dead = true := hdx.trans hd
    clear hdx hcx hd h
    go_enter Try.func45, Try.ntmps45
    go_wp2_with (first
      | (refine wpList_load_row rfl 56 (.tmp 1) rfl w.heap.size rfl 56 _ (0, 0) _ HBX.out.b0 Try.underlying56 rfl t_info ?_)
      | (refine wpList_store_row rfl 56 (.tmp 2) (.tmp 13) rfl (w.heap.size + 1) #[.int .i64 blocks, .slice AS sS.length cS, .slice AQ sQ.length cQ, .int .u64 counter, .slice AL sL.length cL, .int .i64 reads, .bool armed, .int .i64 power, .bool true, .slice AT sT.length cT] rfl rfl 56 zT.toArray HBX.out.b1 t_info (zT_size _ rfl) (t_one _ _ _ _ _ _ _ _ _ _ _ _ _ _ _ _ _ _) ?_))
    have hb4 := HBX.out.b1.putRow [.int .i64 blocks, .slice AS sS.length cS, .slice AQ sQ.length cQ, .int .u64 counter, .slice AL sL.length cL, .int .i64 reads, .bool armed, .int .i64 power, .bool true, .slice AT sT.length cT]
    have hbw := HBX.out.row #[.int .i64 blocks, .slice AS sS.length cS, .slice AQ sQ.length cQ, .int .u64 counter, .slice AL sL.length cL, .int .i64 reads, .bool armed, .int .i64 power, .bool true, .slice AT sT.length cT]
    refine bodyPost_ret (results_cell_slot rfl _ _ (w.heap.size + 1) _ _ rfl rfl (load_row hb4 Try.underlying56 rfl t_info)) rfl ?_
    rw [HP.out, HR.out]
    exact ⟨_, rfl, HX.out.below hbw, hbw⟩
  · have hd2 : s.dead = false := by simpa using hd
    obtain rfl : dead = false := hdx.trans hd2
    by_cases hm : s.counter = 18446744073709551615
    · have HP : Hd (bumpP s = s) := ⟨by unfold bumpP; rw [if_neg hd, if_pos hm]⟩
      have HR : Hd (bumpR s = false) := ⟨by unfold bumpR; rw [hd2, hm]; rfl⟩
      obtain rfl : counter = 18446744073709551615 := hcx.trans hm
      clear hdx hcx hd hd2 hm h
      go_enter Try.func45, Try.ntmps45
      go_wp2_with (first
        | (refine wpList_load_row rfl 56 (.tmp 1) rfl w.heap.size rfl 56 _ (0, 0) _ HBX.out.b0 Try.underlying56 rfl t_info ?_)
        | (refine wpList_store_row rfl 56 (.tmp 2) (.tmp 13) rfl (w.heap.size + 1) #[.int .i64 blocks, .slice AS sS.length cS, .slice AQ sQ.length cQ, .int .u64 18446744073709551615, .slice AL sL.length cL, .int .i64 reads, .bool armed, .int .i64 power, .bool false, .slice AT sT.length cT] rfl rfl 56 zT.toArray HBX.out.b1 t_info (zT_size _ rfl) (t_one _ _ _ _ _ _ _ _ _ _ _ _ _ _ _ _ _ _) ?_))
      have hb4 := HBX.out.b1.putRow [.int .i64 blocks, .slice AS sS.length cS, .slice AQ sQ.length cQ, .int .u64 18446744073709551615, .slice AL sL.length cL, .int .i64 reads, .bool armed, .int .i64 power, .bool false, .slice AT sT.length cT]
      have hbw := HBX.out.row #[.int .i64 blocks, .slice AS sS.length cS, .slice AQ sQ.length cQ, .int .u64 18446744073709551615, .slice AL sL.length cL, .int .i64 reads, .bool armed, .int .i64 power, .bool false, .slice AT sT.length cT]
      refine bodyPost_ret (results_cell_slot rfl _ _ (w.heap.size + 1) _ _ rfl rfl (load_row hb4 Try.underlying56 rfl t_info)) rfl ?_
      rw [HP.out, HR.out]
      exact ⟨_, rfl, HX.out.below hbw, hbw⟩
    · have hcm : (counter == 18446744073709551615) = false := by rw [beq_eq_false_iff_ne, hcx]; exact hm
      have HD := Hd.mk hd2
      have HCN : Hd (0 ≤ s.counter ∧ s.counter < 18446744073709551615) := ⟨by have := h.nm.2.2.1; have := h.nm.2.2.2.1; omega⟩
      obtain ⟨kk, hkk⟩ : ∃ kk, takesK s ((1 : Nat) : Int) = kk := ⟨_, rfl⟩
      have HKK := Hd.mk hkk
      have HP : Hd (bumpP s = if kk = 0 then takesP s 1 else noteP (upP s) 5 0 0 []) := ⟨by unfold bumpP; rw [if_neg hd, if_neg hm, ← hkk]; rfl⟩
      have HR : Hd (bumpR s = !decide (kk = 0)) := ⟨by unfold bumpR; rw [hd2, ← hkk]; simp [hm]⟩
      clear hdx hcx hd hd2 hm h hkk
      by_cases hk0 : kk = 0
      · rw [if_pos hk0] at HP
        have HR2 : Hd (bumpR s = false) := ⟨by rw [HR.out]; simp [hk0]⟩
        subst hk0
        go_enter Try.func45, Try.ntmps45
        go_wp2_with (first
          | (go_at_call 53
             refine (rtakes_calls HX3.out HD.out 1 (by decide)).mono ?_
             rw [HKK.out]
             rintro e w1 ⟨x1, rfl, h1, hb1⟩
             obtain ⟨w2, hw2, K4, g1, g2, g3, g4, g5, g6, g7, g8⟩ := box_made (w := w1) (K := K3) (fun k hk => HK3.out k (Nat.le_trans hb1.size hk)) x1
             have HW2 := Hd.mk hw2
             have HX2 := Hd.mk (h1.step g4)
             have HBK := Hd.mk g5
             have HL4 : Hd (∀ k, K4 k = 0 → K k = 0) := ⟨fun k hk => HL3.out k (g1 k hk)⟩
             have HT4 : Hd (K4 (w.heap.size + 1) ≠ 0) := ⟨fun e => HT3.out (g1 _ e)⟩
             have HG4 := Hd.mk g2
             have HK4 := Hd.mk g3
             have HSZ : Hd (w.heap.size + 1 < w1.heap.size) := ⟨(HBX.out.below hb1).b1.lt⟩
             have HBX := Hd.mk ((HBX.out.below hb1).below g6)
             clear h1 hb1 hw2 g1 g2 g3 g4 g5 g6 g7 g8)
          | (refine wpList_load_row rfl 56 (.tmp 1) rfl w.heap.size rfl 56 _ (0, 0) _ HBX.out.b0 Try.underlying56 rfl t_info ?_)
          | (refine wpList_store_row rfl 56 (.tmp 4) (.tmp 17) rfl w1.heap.size x1.cells.toArray rfl rfl 56 zT.toArray (Blk.new w1 _ zT) t_info rfl (t_all x1) ?_; rw [HW2.out])
          | (refine wpList_load_row rfl 56 (.tmp 4) rfl w1.heap.size rfl 56 _ (0, 0) _ HBK.out Try.underlying56 rfl t_info ?_)
          | (refine wpList_store_row rfl 56 (.tmp 2) (.tmp 21) rfl (w.heap.size + 1) x1.cells.toArray rfl rfl 56 zT.toArray HBX.out.b1 t_info rfl (t_all x1) ?_))
        have hb4 := HBX.out.b1.putRow x1.cells
        have hst := boxed_end HL4.out HT4.out w2 x1.cells.toArray
        refine bodyPost_ret (results_cell_slot rfl _ _ (w.heap.size + 1) _ _ rfl rfl (load_row hb4 Try.underlying56 rfl t_info)) rfl ?_
        rw [HP.out, HR2.out]
        exact ⟨x1, rfl, HX2.out.step hst, HBX.out.row _⟩
      · rw [if_neg hk0] at HP
        have HR2 : Hd (bumpR s = true) := ⟨by rw [HR.out]; simp [hk0]⟩
        have hke : (kk == 0) = false := by rw [beq_eq_false_iff_ne]; exact hk0
        clear hk0
        go_enter Try.func45, Try.ntmps45
        go_wp2_with (first
          | (go_at_call 53
             refine (rtakes_calls HX3.out HD.out 1 (by decide)).mono ?_
             rw [HKK.out]
             rintro e w1 ⟨x1, rfl, h1, hb1⟩
             obtain ⟨w2, hw2, K4, g1, g2, g3, g4, g5, g6, g7, g8⟩ := box_made (w := w1) (K := K3) (fun k hk => HK3.out k (Nat.le_trans hb1.size hk)) x1
             have HW2 := Hd.mk hw2
             have HX2 := Hd.mk (h1.step g4)
             have HBK := Hd.mk g5
             have HL4 : Hd (∀ k, K4 k = 0 → K k = 0) := ⟨fun k hk => HL3.out k (g1 k hk)⟩
             have HT4 : Hd (K4 (w.heap.size + 1) ≠ 0) := ⟨fun e => HT3.out (g1 _ e)⟩
             have HG4 := Hd.mk g2
             have HK4 := Hd.mk g3
             have HSZ : Hd (w.heap.size + 1 < w1.heap.size) := ⟨(HBX.out.below hb1).b1.lt⟩
             have HBX := Hd.mk ((HBX.out.below hb1).below g6)
             clear h1 hb1 hw2 g1 g2 g3 g4 g5 g6 g7 g8)
          | (refine wpList_load_row rfl 56 (.tmp 1) rfl w.heap.size rfl 56 _ (0, 0) _ HBX.out.b0 Try.underlying56 rfl t_info ?_)
          | (refine wpList_store_row rfl 56 (.tmp 4) (.tmp 17) rfl w1.heap.size x1.cells.toArray rfl rfl 56 zT.toArray (Blk.new w1 _ zT) t_info rfl (t_all x1) ?_; rw [HW2.out]
             have hc1 : x1.counter = s.counter := HX2.out.e0.2.1.trans (takes_same s 1).1
             have q3 := HBK.out.cell (i := 3) rfl
             have f3 := HBK.out.frz 3
             have hcn := HCN.out
             rw [← hc1] at hcn
             have hw3 : IntKind.u64.wrap (x1.counter + 1) = x1.counter + 1 := by rw [IntKind.wrap_u64]; omega
             have HCC := Hd.mk hcn
             have HC1 := Hd.mk hc1
             have HBK3 := Hd.mk (HBK.out.set 3 (.int .u64 (x1.counter + 1)))
             have HTM : Hd (Tm (w2.setCell ⟨w1.heap.size, 3, none⟩ (.int .u64 (x1.counter + 1))) K4 q { x1 with counter := x1.counter + 1 } (upP s)) := ⟨by
               have h9 := (HX2.out.count (n := x1.counter + 1) (by omega) (by omega)).step (Stp.tagged w2 ⟨w1.heap.size, 3, none⟩ HG4.out (.int .u64 (x1.counter + 1)))
               have e9 : upP s = { takesP s ((1 : Nat) : Int) with counter := x1.counter + 1 } := by unfold upP; rw [HC1.out]; rfl
               rw [e9]; exact h9⟩
             have HKW : Hd (∀ k, (w2.setCell ⟨w1.heap.size, 3, none⟩ (.int .u64 (x1.counter + 1))).heap.size ≤ k → K4 k = 0) := ⟨fun k hk => HK4.out k (by simpa using hk)⟩
             have HBX := Hd.mk (HBX.out.far ⟨w1.heap.size, 3, none⟩ HSZ.out (.int .u64 (x1.counter + 1)))
             clear hc1 hcn)
          | (refine wpList_load_row rfl 56 (.tmp 4) rfl w1.heap.size rfl 56 _ (0, 0) _ HBK3.out Try.underlying56 rfl t_info ?_)
          | (go_at_call 51
             refine (rnote_calls (x := { x1 with counter := x1.counter + 1 }) HTM.out HKW.out (by have e9 : (upP s).trace = s.trace := (takes_same s 1).2.1; rw [e9]; exact HTL.out) 5 0 0 none 0 0 [] ⟨Rc.nil _ _, fun _ e _ => by cases e⟩ rfl (Nat.le_refl _)).mono ?_
             rintro e w5 ⟨x5, rfl, h5, hb5⟩
             have HX5 := Hd.mk h5
             have HBX := Hd.mk (HBX.out.below hb5)
             clear h5 hb5)
          | (refine wpList_store_row rfl 56 (.tmp 2) (.tmp 27) rfl (w.heap.size + 1) x5.cells.toArray rfl rfl 56 zT.toArray HBX.out.b1 t_info rfl (t_all x5) ?_))
        have hb4 := HBX.out.b1.putRow x5.cells
        have hst := boxed_end HL4.out HT4.out w5 x5.cells.toArray
        refine bodyPost_ret (results_cell_slot rfl _ _ (w.heap.size + 1) _ _ rfl rfl (load_row hb4 Try.underlying56 rfl t_info)) rfl ?_
        rw [HP.out, HR2.out]
        exact ⟨x5, rfl, HX5.out.step hst, HBX.out.row _⟩
end
end Go.Proofs.Ytffhncpgknkkaaa
/-! from CPadRef2 -/
namespace Go.Proofs.Ytffhncpgknkkaaa
open Go.RowKit Go.Sac
set_option linter.unusedVariables false
set_option linter.unusedSimpArgs false

def lenOf : Value → Nat | .slice _ n _ => n | _ => 0
theorem pad_snoc (l : List UInt8) (j : Nat) : l ++ List.replicate (j + 1) (0 : UInt8) = (l ++ List.replicate j 0) ++ [0] := by rw [List.replicate_succ', List.append_assoc]
def padT (l : List UInt8) (j : Nat) : List UInt8 := l ++ List.replicate j 0
theorem padT_len (l : List UInt8) (j : Nat) : (padT l j).length = l.length + j := by simp [padT]

set_option maxHeartbeats 1000000 in
theorem rpad_calls (A : Option Addr) (n c : Nat) (l : List UInt8) (wide : Int) (w : World) (hl : Rc w A (bs l)) (hn : l.length ≤ 1099511627776) (h1 : wide ≤ 1099511627776) (e1 : n = l.length) :
    Calls Try.prog 52 #[.slice A n c, .int .i64 wide] w fun e w' => RetB 5 (padB l wide) w e w' := by
  subst e1
  have HL := Hd.mk hl
  clear hl
  obtain ⟨m, hm⟩ : ∃ m, m = wide.toNat - l.length := ⟨_, rfl⟩
  have hp : padB l wide = padT l m := by unfold padB padT; rw [hm]
  rw [hp]
  have HM := Hd.mk hm
  clear hm hp
  go_enter Try.func52, Try.ntmps52
  go_wp2_with (at_builtin; refine app_rc w.heap.size 22 5 (.int .u8 0) 1 1 (.tmp 6) (.tmp 7) rfl rfl Try.underlying22 info_u8 rfl (by decide) (by decide) (.slice none 0 0) 0 [] (bs l) A l.length c rfl rfl (World.ownsRow_nil _ _ _ _) HL.out (by simp) bs_one (Nat.le_refl _) (by omega) l.length (bs l) (by omega) (by simp) ?_; intro v1 w1 ho hg hat; have HO := Hd.mk ho; have HG := Hd.mk hg; clear ho hg hat)
  have HB1 : Hd (Below w.heap.size w w1) := ⟨below_lift (Below.refl _ _) (Nat.le_refl _) HG.out (by simp [Value.ownBlock])⟩
  go_loopw [5] (fun v wr => ∃ j : Nat, j ≤ m ∧ Hd (wr.ownsRow w.heap.size 5 1 v (padT l j).length (bs (padT l j))) ∧ Hd (Below w.heap.size w wr)) (fun v _ => l.length + m - lenOf v)
  case atStart => exact ⟨0, Nat.zero_le _, ⟨by have := HO.out; simpa [padT] using this⟩, HB1⟩
  case round =>
    clear HB1 HO HG
    obtain ⟨j, hj, HO, HB⟩ := hrel
    obtain ⟨A1, c1, rfl, _, _, _⟩ := own_rc HO.out
    have hlen := Hd.mk (padT_len l j)
    by_cases hlt : j < m
    · have hs : decide (((padT l j).length : Int) < wide) = true := by have := hlen.out; have := HM.out; simp; omega
      go_wp2_with (at_builtin; refine app_rc w.heap.size 22 5 (.int .u8 0) 1 1 (.tmp 13) (.tmp 14) rfl rfl Try.underlying22 info_u8 rfl (by decide) (by decide) (.slice A1 (padT l j).length c1) (padT l j).length (bs (padT l j)) [.int .u8 0] (some ⟨wr.heap.size, 0, none⟩) 1 1 rfl rfl (own_alloc HO.out _) (Rc.one _ _ _) (by simp) (by simp [Value.oneCell']) (Nat.le_trans HB.out.size (by simp)) (by have := HM.out; have := hlen.out; omega) (padT l (j + 1)).length (bs (padT l (j + 1))) (by rw [padT_len, padT_len]; omega) (by rw [padT, padT, pad_snoc]; simp [u8v]) ?_; intro v2 w2 ho hg hat; have HO1 := Hd.mk ho; have HG := Hd.mk hg; clear ho hg hat)
      obtain ⟨A2, c2, rfl, _, _, _⟩ := own_rc HO1.out
      go_roundw
      case rel => exact ⟨j + 1, by omega, HO1, ⟨below_lift (HB.out.alloc HB.out.size _) (Nat.le_trans HB.out.size (by simp)) HG.out (fun b hb => (own_lt HO.out b hb).1)⟩⟩
      case measure =>
        have h2 := padT_len l (j + 1)
        have h1 := hlen.out
        simp [lenOf]
        omega
    · obtain rfl : j = m := by omega
      have hs : decide (((padT l j).length : Int) < wide) = false := by have := hlen.out; have := HM.out; simp; omega
      go_wp2
      go_ret
      exact ⟨_, rfl, HO.out, HB.out⟩

end Go.Proofs.Ytffhncpgknkkaaa
/-! from W06Rs -/
namespace Go.Proofs.Ytffhncpgknkkaaa
open Go.RowKit Go.Sac
set_option linter.unusedVariables false
set_option linter.unusedSimpArgs false
def withS (x : Td) (A' : Option Addr) (i : Nat) (y : Rw) (c' : Nat) : Td := { x with AS := A', S := x.S.set i y, cS := c' }
def withQ (x : Td) (A' : Option Addr) (i : Nat) (y : Rw) (c' : Nat) : Td := { x with AQ := A', Q := x.Q.set i y, cQ := c' }
theorem withS_cells (x : Td) (A' : Option Addr) (i : Nat) (y : Rw) (c' : Nat) : (withS x A' i y c').cells = x.cells.set 1 (.slice A' x.S.length c') := by unfold withS Td.cells; simp
theorem withQ_cells (x : Td) (A' : Option Addr) (i : Nat) (y : Rw) (c' : Nat) : (withQ x A' i y c').cells = x.cells.set 2 (.slice A' x.Q.length c') := by unfold withQ Td.cells; simp
section
variable {w : World} {K : Nat → Nat} {q : Nat} {x : Td} {s : Wd}
theorem Tm.putS (h : Tm w K q x s) {A' : Option Addr} {c' an tn : Nat} {y : Rw} {xs : List UInt8} (ht : tn < 2) (hi : 2 * an + tn < x.S.length) (hA : FrC w K A' (rws (x.S.set (2 * an + tn) y))) (hc : x.S.length ≤ c') (hy : Fr w K y.A y.b) (hyc : y.b.length ≤ y.c) (hyl : y.b.length = 272) (ho : overB (s.slots ((an : Int), (tn : Int))) xs = y.b) :
    Tm w K q (withS x A' (2 * an + tn) y c') (putP s ((an : Int), (tn : Int)) xs) := by
  unfold withS
  exact { h with
    rs := hA
    hs := fun z hz => by
      rcases List.mem_or_eq_of_mem_set hz with hz | rfl
      · exact h.hs z hz
      · exact ⟨hy, hyc, hyl⟩
    es := by show (x.S.set _ _).length = _; rw [List.length_set]; exact h.es
    em := fun a t hlt ht2 => by
      have hlt2 : 2 * a + t < x.S.length := by have : 2 * a + t < (x.S.set (2 * an + tn) y).length := hlt; rwa [List.length_set] at this
      show ((x.S.set (2 * an + tn) y)[2 * a + t]).b = (if ((a : Int), (t : Int)) = ((an : Int), (tn : Int)) then overB (s.slots ((a : Int), (t : Int))) xs else s.slots ((a : Int), (t : Int)))
      rw [List.getElem_set]
      by_cases e : 2 * an + tn = 2 * a + t
      · have ha : an = a ∧ tn = t := by omega
        obtain ⟨rfl, rfl⟩ := ha
        rw [if_pos e, if_pos rfl, ho]
      · rw [if_neg e, if_neg (fun e2 => e (by simp only [Prod.mk.injEq] at e2; omega))]
        exact h.em a t hlt2 ht2
    cp := ⟨by show (x.S.set _ _).length ≤ c'; rw [List.length_set]; exact hc, h.cp.2⟩ }
theorem Tm.putQ (h : Tm w K q x s) {A' : Option Addr} {c' i : Nat} {y : Rw} (hi : i = 0 ∨ i = 1) (hA : FrC w K A' (rws (x.Q.set i y))) (hc : x.Q.length ≤ c') (hy : Fr w K y.A y.b) (hyc : y.b.length ≤ y.c) : Tm w K q (withQ x A' i y c') (sealS s (i : Int) y.b) := by
  have hm : (x.Q.set i y).map (·.b) = [s.s0, s.s1].set i y.b := by rw [List.map_set, h.eq]
  have hq : ∀ z ∈ x.Q.set i y, Fr w K z.A z.b ∧ z.b.length ≤ z.c := fun z hz => by
    rcases List.mem_or_eq_of_mem_set hz with hz | rfl
    · exact h.hq z hz
    · exact ⟨hy, hyc⟩
  have hl : (x.Q.set i y).length ≤ c' := by rw [List.length_set]; exact hc
  unfold withQ sealS
  rcases hi with rfl | rfl
  · exact { h with rq := hA, hq := hq, eq := by show (x.Q.set 0 y).map (·.b) = _; rw [hm]; rfl, cp := ⟨h.cp.1, hl, h.cp.2.2⟩ }
  · exact { h with rq := hA, hq := hq, eq := by show (x.Q.set 1 y).map (·.b) = _; rw [hm]; rfl, cp := ⟨h.cp.1, hl, h.cp.2.2⟩ }
end
/-- the region: over, with, and the field is stored -/
structure WG (c1 c2 st : Nat) (W0 : World) (K : Nat → Nat) (n : Nat) (l : List Rw) (ix : Nat) (ov : List UInt8) (gB o : Nat) (L : Nat → Bool) (w : World) (f : Nat → Value) : Prop where
  a : L st = false → Below W0.heap.size W0 w ∧ (L c1 = true → ∃ A c, f c1 = .slice A ov.length c ∧ ov.length ≤ c ∧ Fr w K A ov) ∧ (L c2 = true → ∃ A c A' c', ov.length ≤ c ∧ Fr w K A ov ∧ f c2 = .slice A' n c' ∧ n ≤ c' ∧ FrC w K A' (rws (l.set ix ⟨A, ov, c⟩)))
  b : L st = true → ∃ w1 A c A' c', Below W0.heap.size W0 w1 ∧ ov.length ≤ c ∧ Fr w1 K A ov ∧ n ≤ c' ∧ FrC w1 K A' (rws (l.set ix ⟨A, ov, c⟩)) ∧ w = w1.setCell ⟨gB, o, none⟩ (.slice A' n c')
section
variable {c1 c2 st : Nat} {W0 : World} {K : Nat → Nat} {n : Nat} {l : List Rw} {ix : Nat} {ov : List UInt8} {gB o : Nat} {L : Nat → Bool} {w : World} {f : Nat → Value}
theorem WG.start (f : Nat → Value) : WG c1 c2 st W0 K n l ix ov gB o (fun _ => false) W0.drew f := ⟨fun _ => ⟨(Below.refl _ _).drew, nofun, nofun⟩, nofun⟩
theorem WG.past (h : WG c1 c2 st W0 K n l ix ov gB o L w f) (i : Nat) (v : Value) (hi : c1 ≠ i ∧ c2 ≠ i ∧ st ≠ i) : WG c1 c2 st W0 K n l ix ov gB o (fun j => j == i || L j) w (upd f i v) := by
  obtain ⟨n1, n2, n3⟩ := hi
  have e : ∀ k, k ≠ i → (k == i || L k) = L k := fun k hk => by simp [hk]
  refine ⟨fun a => ?_, fun a => h.b (e st n3 ▸ a)⟩
  obtain ⟨h1, h2, h3⟩ := h.a (e st n3 ▸ a)
  refine ⟨h1, fun b => ?_, fun b => ?_⟩
  · rw [upd_ne _ _ _ _ n1]; exact h2 (e c1 n1 ▸ b)
  · rw [upd_ne _ _ _ _ n2]; exact h3 (e c2 n2 ▸ b)
theorem WG.over (h : WG c1 c2 st W0 K n l ix ov gB o L w f) (hn : c1 ≠ c2 ∧ c1 ≠ st) (l2 : L c2 = false) (ls : L st = false) {w' : World} {A : Option Addr} {c : Nat} (hb : Below w.heap.size w w') (hc : ov.length ≤ c) (hf : Fr w' K A ov) : WG c1 c2 st W0 K n l ix ov gB o (fun j => j == c1 || L j) w' (upd f c1 (.slice A ov.length c)) := by
  obtain ⟨h1, _, _⟩ := h.a ls
  have e2 : (c2 == c1 || L c2) = false := by simp [hn.1.symm, l2]
  have e3 : (st == c1 || L st) = false := by simp [hn.2.symm, ls]
  refine ⟨fun _ => ⟨below_then h1 h1.size hb, fun _ => ⟨A, c, upd_same _ _ _, hc, hf⟩, fun b => ?_⟩, fun b => ?_⟩
  · rw [e2] at b; cases b
  · rw [e3] at b; cases b
theorem WG.with (h : WG c1 c2 st W0 K n l ix ov gB o L w f) (hn : c1 ≠ c2 ∧ c2 ≠ st) (l1 : L c1 = true) (ls : L st = false) {w' : World} {A A' : Option Addr} {c c' : Nat} (he : f c1 = .slice A ov.length c) (hb : Below w.heap.size w w') (hf : Fr w K A ov) (hc : ov.length ≤ c) (hc' : n ≤ c') (hr : FrC w' K A' (rws (l.set ix ⟨A, ov, c⟩))) : WG c1 c2 st W0 K n l ix ov gB o (fun j => j == c2 || L j) w' (upd f c2 (.slice A' n c')) := by
  obtain ⟨h1, _, _⟩ := h.a ls
  have e3 : (st == c2 || L st) = false := by simp [hn.2.symm, ls]
  refine ⟨fun _ => ⟨below_then h1 h1.size hb, fun _ => ⟨A, c, by rw [upd_ne _ _ _ _ hn.1]; exact he, hc, hf.below hb⟩, fun _ => ⟨A, c, A', c', hc, hf.below hb, upd_same _ _ _, hc', hr⟩⟩, fun b => ?_⟩
  rw [e3] at b; cases b
theorem WG.store (h : WG c1 c2 st W0 K n l ix ov gB o L w f) (hn : c2 ≠ st) (l2 : L c2 = true) (ls : L st = false) (v : Value) : ∃ A' c', f c2 = .slice A' n c' ∧ Below W0.heap.size W0 w ∧ WG c1 c2 st W0 K n l ix ov gB o (fun j => j == st || L j) (w.setCell ⟨gB, o, none⟩ (.slice A' n c')) (upd f st v) := by
  obtain ⟨h1, _, h3⟩ := h.a ls
  obtain ⟨A, c, A', c', q1, q2, q3, q4, q5⟩ := h3 l2
  exact ⟨A', c', q3, h1, fun b => by simp at b, fun _ => ⟨w, A, c, A', c', h1, q1, q2, q4, q5, rfl⟩⟩
end
end Go.Proofs.Ytffhncpgknkkaaa
/-! from W06Rws -/
namespace Go.Proofs.Ytffhncpgknkkaaa
open Go.RowKit Go.Sac
set_option linter.unusedVariables false
set_option linter.unusedSimpArgs false
theorem fr_of {w : World} {K : Nat → Nat} {A : Option Addr} {b : List UInt8} (h : FrC w K A (bs b)) : Fr w K A b := ⟨h.rc, fun a e hb => h.fr a e (fun e2 => hb (by have := congrArg List.length e2; rw [bs_len] at this; exact List.length_eq_zero_iff.1 this))⟩
def VF (gB : Nat) (cs : Array Value) (d : Bool) (i : Nat) (w : World) (v : Value) : Prop :=
  match i with
  | 0 => v = Value.agg cs
  | 1 => v = Value.pointer (some ⟨gB, 8, none⟩)
  | 2 => v = Value.bool d
  | 3 => v = Value.bool (!d)
  | 5 => v = Value.bool (!d)
  | _ => True
def VWo (gB o : Nat) (bA off n c ix m : Nat) (an tn : Nat) (yA : Option Addr) (yb : List UInt8) (yc : Nat) (rv : Value) (i : Nat) (w : World) (v : Value) : Prop :=
  match i with
  | 0 => v = Value.pointer (some ⟨gB, o, none⟩)
  | 1 => v = Value.slice (some ⟨bA, off, none⟩) n c
  | 2 => v = Value.int .i64 (an : Int)
  | 3 => v = Value.int .i64 (2 * (an : Int))
  | 4 => v = Value.int .i64 (tn : Int)
  | 5 => v = Value.int .i64 (ix : Int)
  | 6 => v = Value.pointer (some ⟨gB, o, none⟩)
  | 7 => v = Value.slice (some ⟨bA, off, none⟩) n c
  | 8 => v = Value.int .i64 (an : Int)
  | 9 => v = Value.int .i64 (2 * (an : Int))
  | 10 => v = Value.int .i64 (tn : Int)
  | 11 => v = Value.int .i64 (ix : Int)
  | 12 => v = Value.pointer (some ⟨bA, off + ix, none⟩)
  | 13 => v = Value.slice yA yb.length yc
  | 14 => v = rv
  | 15 => v = Value.int .i64 (m : Int)
  | 18 => v = Value.pointer (some ⟨gB, o, none⟩)
  | _ => True
def VSo (gB o : Nat) (bA off n c ix m : Nat) (yA : Option Addr) (yb : List UInt8) (yc : Nat) (rv : Value) (i : Nat) (w : World) (v : Value) : Prop :=
  match i with
  | 0 => v = Value.pointer (some ⟨gB, o, none⟩)
  | 1 => v = Value.slice (some ⟨bA, off, none⟩) n c
  | 2 => v = Value.int .i64 (ix : Int)
  | 3 => v = Value.pointer (some ⟨gB, o, none⟩)
  | 4 => v = Value.slice (some ⟨bA, off, none⟩) n c
  | 5 => v = Value.int .i64 (ix : Int)
  | 6 => v = Value.pointer (some ⟨bA, off + ix, none⟩)
  | 7 => v = Value.slice yA yb.length yc
  | 8 => v = rv
  | 9 => v = Value.int .i64 (m : Int)
  | 12 => v = Value.pointer (some ⟨gB, o, none⟩)
  | _ => True
section
variable {w : World} {K : Nat → Nat} {q : Nat} {x : Td} {s : Wd}
set_option maxRecDepth 100000 in
set_option maxHeartbeats 8000000 in
theorem rwrite_calls (h : Tm w K q x s) (hK : ∀ k, w.heap.size ≤ k → K k = 0) (hq : q ≤ 1000000) (hf : Few s) (a t : Int) (AB : Option Addr) (n cap : Nat) (bb : List UInt8) (hr : Fr w K AB bb) (e1 : n = bb.length) (hc : bb.length ≤ cap) (hn : bb.length ≤ 1099511627776) :
    Calls Try.prog 42 #[.agg x.cells.toArray, .int .i64 a, .int .i64 t, .slice AB n cap] w (RetTB K q (writeP s a t bb) (writeR s a t bb) w) := by
  have HTL : Hd (s.trace.length ≤ 1000000) := ⟨hf.trace⟩
  have HQ := Hd.mk hq
  have HFB := Hd.mk hr
  have HCB := Hd.mk hc
  have HNB := Hd.mk hn
  subst e1
  obtain ⟨blocks, AS, sS, cS, AQ, sQ, cQ, counter, AL, sL, cL, reads, armed, power, dead, AT, sT, cT⟩ := x
  have HX := Hd.mk h
  unfold Td.cells
  dsimp only
  obtain ⟨W, hW, hb, hk0, hk1, hz⟩ := two_boxes w [.int .i64 blocks, .slice AS sS.length cS, .slice AQ sQ.length cQ, .int .u64 counter, .slice AL sL.length cL, .int .i64 reads, .bool armed, .int .i64 power, .bool dead, .slice AT sT.length cT]
  have HBX : Hd (Bx w [.int .i64 blocks, .slice AS sS.length cS, .slice AQ sQ.length cQ, .int .u64 counter, .slice AL sL.length cL, .int .i64 reads, .bool armed, .int .i64 power, .bool dead, .slice AT sT.length cT] W) := ⟨⟨hb, hk0, hk1⟩⟩
  obtain ⟨K3, hl3, _, ht3, hh3, hs3⟩ := boxed_start hb hz hK
  have HX3 := Hd.mk (h.step hs3)
  have HFB3 := Hd.mk (hr.step hs3)
  have HL3 := Hd.mk hl3
  have HT3 := Hd.mk ht3
  have HK3 := Hd.mk hh3
  have HZ3 := Hd.mk hz
  have hsl : sS.length = 2 * s.blocks.toNat := h.es
  clear hb hk0 hk1 hz hK hr hc hn hq hl3 ht3 hh3 hs3
  by_cases hth : thereP s a t = true
  · have HTH := Hd.mk hth
    have hab : s.dead = false ∧ 0 ≤ a ∧ a < s.blocks ∧ (t = 0 ∨ t = 1) := by
      unfold thereP at hth
      simp only [Bool.and_eq_true, Bool.or_eq_true, decide_eq_true_eq, Bool.not_eq_true'] at hth
      exact ⟨hth.1, hth.2.1, hth.2.2.1, hth.2.2.2⟩
    obtain ⟨an, rfl⟩ : ∃ an : Nat, a = (an : Int) := ⟨a.toNat, by omega⟩
    obtain ⟨tn, rfl⟩ : ∃ tn : Nat, t = (tn : Int) := ⟨t.toNat, by omega⟩
    have htn : tn < 2 := by omega
    obtain ⟨ix, hix⟩ : ∃ ix, 2 * an + tn = ix := ⟨_, rfl⟩
    have hbk := h.nm.2.1
    have HTN := Hd.mk htn
    have HIXE := Hd.mk hix
    have HIB : Hd (ix < 2 * s.blocks.toNat) := ⟨by omega⟩
    have HM2 : Hd (IntKind.i64.wrap (2 * (an : Int)) = 2 * (an : Int)) := ⟨by rw [IntKind.wrap_i64]; omega⟩
    have HM3 : Hd (IntKind.i64.wrap (2 * (an : Int) + (tn : Int)) = (ix : Int)) := ⟨by rw [IntKind.wrap_i64]; omega⟩
    have HDN : Hd ((noteP s 2 (an : Int) (tn : Int) bb).dead = false) := ⟨hab.1⟩
    have HBB : Hd (s.blocks ≤ 4096) := ⟨hbk⟩
    obtain ⟨m, hm, hm2⟩ : ∃ m : Nat, takesK (noteP s 2 (an : Int) (tn : Int) bb) ((272 : Nat) : Int) = (m : Int) ∧ m ≤ 272 := by
      have hp := h.nm.2.2.2.2.2.1
      refine ⟨(takesK (noteP s 2 (an : Int) (tn : Int) bb) ((272 : Nat) : Int)).toNat, ?_, ?_⟩
      · rw [Int.toNat_of_nonneg]
        unfold takesK noteP
        split
        · show (0 : Int) ≤ min _ s.power; omega
        · decide
      · unfold takesK noteP
        split
        · show (min _ s.power).toNat ≤ 272; omega
        · decide
    have HMK := Hd.mk hm
    have HMW : Hd (m ≤ (wideW bb).length) := ⟨by rw [wideW_len]; exact hm2⟩
    have HP : Hd (writeP s (an : Int) (tn : Int) bb = putP (takesP (noteP s 2 (an : Int) (tn : Int) bb) ((272 : Nat) : Int)) ((an : Int), (tn : Int)) ((wideW bb).take m)) := ⟨by
      unfold writeP writeS
      rw [if_pos hth]
      have : takesK s 272 = (m : Int) := hm
      rw [this]
      rfl⟩
    have HR : Hd (writeR s (an : Int) (tn : Int) bb = !(putP (takesP (noteP s 2 (an : Int) (tn : Int) bb) ((272 : Nat) : Int)) ((an : Int), (tn : Int)) ((wideW bb).take m)).dead) := ⟨by unfold writeR writeS; rw [hth]; rfl⟩
    have hpl : 272 ≤ (padB bb 272).length := by unfold padB; simp; omega
    have HPL := Hd.mk hpl
    have T1 : Hd True := ⟨trivial⟩
    clear hth hab htn hix hsl hbk hm hpl h hf
    go_enter Try.func42, Try.ntmps42
    go_wp2_with (first
      | (go_at_call 49; clear T1; refine (rthere_calls HX3.out (an : Int) (tn : Int)).mono ?_; rw [HTH.out]; rintro e w1 ⟨rfl, hb1⟩; have HBX := Hd.mk (HBX.out.below hb1); have HBW := Hd.mk hb1; have HFB1 := Hd.mk (HFB3.out.below hb1); clear hb1)
      | (refine wpList_load_row rfl 56 (.tmp 4) rfl w.heap.size rfl 56 _ (0, 0) _ HBX.out.b0 Try.underlying56 rfl t_info ?_)
      | (go_at_call 51
         refine (rnote_calls (HX3.out.below HBW.out) (fun k hk => HK3.out k (Nat.le_trans HBW.out.size hk)) HTL.out 2 (an : Int) (tn : Int) AB _ cap bb HFB1.out rfl HCB.out).mono ?_
         rintro e w2 ⟨x1, rfl, h1, hb1⟩
         obtain ⟨w3, hw3, K4, g1, g2, g3, g4, g5, g6, g7, g8⟩ := box_made (w := w2) (K := K3) (fun k hk => (fun k hk => HK3.out k (Nat.le_trans HBW.out.size hk) : ∀ k, _ → _) k (Nat.le_trans hb1.size hk)) x1
         have HW3 := Hd.mk hw3
         have HX4 := Hd.mk (h1.step g4)
         have HFB4 := Hd.mk ((HFB1.out.below hb1).step g4)
         have HB10 := Hd.mk g5
         have HL4 : Hd (∀ k, K4 k = 0 → K k = 0) := ⟨fun k hk => HL3.out k (g1 k hk)⟩
         have HT4 : Hd (K4 (w.heap.size + 1) ≠ 0) := ⟨fun e => HT3.out (g1 _ e)⟩
         have HG4 := Hd.mk g2
         have HK4 := Hd.mk g3
         have HBX := Hd.mk ((HBX.out.below hb1).below g6)
         clear h1 hb1 hw3 g1 g2 g3 g4 g5 g6 g7 g8)
      | (refine wpList_store_row rfl 56 (.tmp 10) (.tmp 24) rfl w2.heap.size x1.cells.toArray rfl rfl 56 zT.toArray (Blk.new w2 _ zT) t_info rfl (t_all x1) ?_; rw [HW3.out])
      | (go_at_call 52; refine (rpad_calls AB _ cap bb 272 _ HFB4.out.rc HNB.out (by decide) rfl).mono ?_
         rintro e w4 ⟨v4, rfl, ho, hb⟩
         obtain ⟨A5, c5, rfl, hc5, hr5, hn5⟩ := own_rc ho
         obtain ⟨ad, hAd⟩ : ∃ ad, A5 = some ad := by obtain ⟨b5, off5, e, _⟩ := hr5.form (by rw [bs_len]; have := HPL.out; omega); exact ⟨_, e⟩
         subst hAd
         have hc5i : (272 : Int) ≤ (c5 : Int) := by have := HPL.out; omega
         have HCC : Hd (272 ≤ c5) := ⟨by omega⟩
         have HR5 : Hd (Rc w4 (some ad) (bs (wideW bb))) := ⟨by unfold wideW; rw [bs, List.map_take]; exact hr5.take 272⟩
         have HX5 := Hd.mk (HX4.out.below hb)
         have HB10 := Hd.mk (HB10.out.below hb HB10.out.lt)
         have HKW4 : Hd (∀ k, w4.heap.size ≤ k → K4 k = 0) := ⟨fun k hk => HK4.out k (Nat.le_trans hb.size hk)⟩
         have HBX := Hd.mk (HBX.out.below hb)
         clear ho hb hc5 hr5 hn5)
      | (refine wpList_load_row rfl 56 (.tmp 10) rfl w2.heap.size rfl 56 _ (0, 0) _ HB10.out Try.underlying56 rfl t_info ?_)
      | (go_at_call 53
         refine (rtakes_calls HX5.out HDN.out 272 (by decide)).mono ?_
         rw [HMK.out]
         rintro e w5 ⟨x2, rfl, h1, hb1⟩
         obtain ⟨w7, hw7, K6, g1, g2, g3, g4, g5, g6, g7, g8⟩ := box_made (w := w5) (K := K4) (fun k hk => HKW4.out k (Nat.le_trans hb1.size hk)) x2
         have HW7 := Hd.mk hw7
         have HX6 := Hd.mk (h1.step g4)
         have HB57 := Hd.mk (hb1)
         have HB77 := Hd.mk (g6)
         have HS67 := Hd.mk ((Stp.of_below (K := K4) hb1).trans g4)
         have HBK6 := Hd.mk g5
         have HL6 : Hd (∀ k, K6 k = 0 → K k = 0) := ⟨fun k hk => HL4.out k (g1 k hk)⟩
         have HT6 : Hd (K6 (w.heap.size + 1) ≠ 0) := ⟨fun e => HT4.out (g1 _ e)⟩
         have HG6 := Hd.mk g2
         have HK6 := Hd.mk g3
         have HGZ : Hd (w.heap.size + 1 < w5.heap.size) := ⟨(HBX.out.below hb1).b1.lt⟩
         have HBX := Hd.mk ((HBX.out.below hb1).below g6)
         clear h1 hb1 hw7 g1 g2 g3 g4 g5 g6 g7 g8)
      | (refine wpList_store_row rfl 56 (.tmp 12) (.tmp 31) rfl w5.heap.size x2.cells.toArray rfl rfl 56 zT.toArray (Blk.new w5 _ zT) t_info rfl (t_all x2) ?_; rw [HW7.out]))
    obtain ⟨gB, hgB⟩ : ∃ gB, w5.heap.size = gB := ⟨_, rfl⟩
    have hs2 := takes_same (noteP s 2 (an : Int) (tn : Int) bb) ((272 : Nat) : Int)
    have hsl2 : x2.S.length = 2 * s.blocks.toNat := by rw [HX6.out.es, hs2.2.2.1]; rfl
    have hil : ix < x2.S.length := by rw [hsl2]; exact HIB.out
    obtain ⟨bA, off, hAS, hbA, hra⟩ := rcK_form rw_len (by decide) HX6.out.rs.rc (by omega)
    have hy := hra ix hil
    have hyf := HX6.out.hs _ (List.getElem_mem hil)
    have hyb : (x2.S[ix]).b = (takesP (noteP s 2 (an : Int) (tn : Int) bb) ((272 : Nat) : Int)).slots ((an : Int), (tn : Int)) := by
      have := HX6.out.em an tn (by rw [HIXE.out]; exact hil) HTN.out
      rw [← this]
      congr 2
      exact HIXE.out.symm
    obtain ⟨y, hye⟩ : ∃ y, x2.S[ix] = y := ⟨_, rfl⟩
    rw [hye] at hy hyf hyb
    obtain ⟨yA, yb, yc⟩ := y
    replace hyb : yb = _ := hyb
    obtain ⟨ov, hov⟩ : ∃ ov, overR yb (wideW bb) m = ov := ⟨_, rfl⟩
    have HOV := Hd.mk hov
    have hyl : yb.length = 272 := hyf.2.2
    have HYL : Hd (yb.length ≤ 1099511627776) := ⟨by omega⟩
    have HOL : Hd (ov.length = 272) := ⟨by rw [← hov, overR_len _ _ _ HMW.out, hyl]; omega⟩
    have HOO : Hd (overB ((takesP (noteP s 2 (an : Int) (tn : Int) bb) ((272 : Nat) : Int)).slots ((an : Int), (tn : Int))) ((wideW bb).take m) = ov) := ⟨by
      rw [← hyb, ← hov]; unfold overB overR
      rw [List.length_take, Nat.min_eq_left HMW.out]⟩
    have HIX := Hd.mk hil
    have HIX2 : Hd (2 * an + tn < x2.S.length) := ⟨by rw [HIXE.out]; exact hil⟩
    have HSL : Hd (x2.S.length ≤ 1000000) := ⟨by rw [hsl2]; have := HBB.out; omega⟩
    have HYW : Hd (∀ W', Below w7.heap.size w7 W' → W'.cell? ⟨bA, off + ix, none⟩ = some (.slice yA yb.length yc)) := ⟨fun W' hb => by have := hy W' hb 0 _ rfl; simpa using this⟩
    have HYF : Hd (Fr w7 K6 yA yb) := ⟨hyf.1⟩
    have HRS : Hd (Rc w7 (some ⟨bA, off, none⟩) (rws x2.S)) := ⟨by rw [← hAS]; exact HX6.out.rs.rc⟩
    have HR5 := Hd.mk ((HR5.out.below HB57.out).below HB77.out)
    rw [hgB] at HBK6 HG6 HGZ ⊢
    have HBL : Hd (∀ W', Below w7.heap.size w7 W' → W'.cell? ⟨gB, 1, none⟩ = some (.slice (some ⟨bA, off, none⟩) x2.S.length x2.cS)) := ⟨fun W' hb => by rw [← hAS]; exact (HBK6.out.below hb HBK6.out.lt).cell (i := 1) rfl⟩
    have HNE : Hd (gB ≠ w.heap.size + 1) := ⟨by have := HGZ.out; omega⟩
    clear hgB hs2 hsl2 hil hAS hbA hra hy hyf hyb hye hov hyl
    refine region_stp (VWo gB 1 bA off x2.S.length x2.cS ix m an tn yA yb yc (.slice (some ad) 272 c5)) (fun L Wx f => WG 16 17 19 w7 K6 x2.S.length x2.S ix ov gB 1 L Wx f) NoR (by kernel_rfl) (by kernel_rfl) (by kernel_rfl) (by kernel_rfl) (fun f => WG.start f) ?stab ?steps ?fin
    case stab => intro i j w1 w2 v o ho hij hwt hR h; exact h
    case steps =>
      refine StepsG.cons ?_ (StepsG.cons ?_ (StepsG.cons ?_ (StepsG.cons ?_ (StepsG.cons ?_ (StepsG.cons ?_ (StepsG.cons ?_ (StepsG.cons ?_ (StepsG.cons ?_ (StepsG.cons ?_ (StepsG.cons ?_ (StepsG.cons ?_ (StepsG.cons ?_ (StepsG.cons ?_ (StepsG.cons ?_ (StepsG.cons ?_ (StepsG.cons ?_ (StepsG.cons ?_ (StepsG.cons ?_ (StepsG.cons ?_ StepsG.nil)))))))))))))))))))
      · intro L f A w6 Q hL hG hsz hlow hun hnl hp
        have e12 : A.tmps.getD 12 undef = Value.pointer (some ⟨gB, 0, none⟩) := hlow 12 rfl
        clear hlow hun hnl hp
        refine wpOp_go rfl rfl ?_
        go_simp
        first | exact ⟨_, rfl, hG.past 0 _ (by decide), ⟨⟩, rfl⟩ | exact ⟨hG.past 0 _ (by decide), ⟨⟩, rfl⟩ | exact ⟨hG.past 0 _ (by decide), rfl⟩ | exact hG.past 0 _ (by decide) | exact ⟨hG.past 0 _ (by decide), ⟨⟩⟩ | exact ⟨_, rfl, hG.past 0 _ (by decide), ⟨⟩, trivial⟩ | exact ⟨_, rfl, ⟨⟩, rfl⟩ | exact ⟨⟨⟩, rfl⟩
      · intro L f A w6 Q hL hG hsz hlow hun hnl hp
        have f0 : f 0 = Value.pointer (some ⟨gB, 1, none⟩) := (hp 0 rfl).2.1
        have e33 : A.tmps.getD 33 undef = Value.pointer (some ⟨gB, 1, none⟩) := ((hp 0 rfl).2.2 33 rfl).trans f0
        have n19 := (hnl 19 1 hL rfl)
        have hbl := (hG.a n19).1
        have hcc : w6.cell? ⟨gB, 1, none⟩ = some (.slice (some ⟨bA, off, none⟩) x2.S.length x2.cS) := HBL.out w6 hbl
        clear hlow hun hnl hp
        refine wpOp_go rfl rfl ?_
        go_simp
        first | exact ⟨_, rfl, hG.past 1 _ (by decide), ⟨⟩, rfl⟩ | exact ⟨hG.past 1 _ (by decide), ⟨⟩, rfl⟩ | exact ⟨hG.past 1 _ (by decide), rfl⟩ | exact hG.past 1 _ (by decide) | exact ⟨hG.past 1 _ (by decide), ⟨⟩⟩ | exact ⟨_, rfl, hG.past 1 _ (by decide), ⟨⟩, trivial⟩ | exact ⟨_, rfl, ⟨⟩, rfl⟩ | exact ⟨⟨⟩, rfl⟩
      · intro L f A w6 Q hL hG hsz hlow hun hnl hp
        have e1 : A.tmps.getD 1 undef = Value.int .i64 (an : Int) := hlow 1 rfl
        clear hlow hun hnl hp
        refine wpOp_go rfl rfl ?_
        go_simp
        first | exact ⟨_, rfl, hG.past 2 _ (by decide), ⟨⟩, rfl⟩ | exact ⟨hG.past 2 _ (by decide), ⟨⟩, rfl⟩ | exact ⟨hG.past 2 _ (by decide), rfl⟩ | exact hG.past 2 _ (by decide) | exact ⟨hG.past 2 _ (by decide), ⟨⟩⟩ | exact ⟨_, rfl, hG.past 2 _ (by decide), ⟨⟩, trivial⟩ | exact ⟨_, rfl, ⟨⟩, rfl⟩ | exact ⟨⟨⟩, rfl⟩
      · intro L f A w6 Q hL hG hsz hlow hun hnl hp
        have f2 : f 2 = Value.int .i64 (an : Int) := (hp 2 rfl).2.1
        have e35 : A.tmps.getD 35 undef = Value.int .i64 (an : Int) := ((hp 2 rfl).2.2 35 rfl).trans f2
        have hm2 := HM2.out
        clear hlow hun hnl hp
        refine wpOp_go rfl rfl ?_
        go_simp
        first | exact ⟨_, rfl, hG.past 3 _ (by decide), ⟨⟩, rfl⟩ | exact ⟨hG.past 3 _ (by decide), ⟨⟩, rfl⟩ | exact ⟨hG.past 3 _ (by decide), rfl⟩ | exact hG.past 3 _ (by decide) | exact ⟨hG.past 3 _ (by decide), ⟨⟩⟩ | exact ⟨_, rfl, hG.past 3 _ (by decide), ⟨⟩, trivial⟩ | exact ⟨_, rfl, ⟨⟩, rfl⟩ | exact ⟨⟨⟩, rfl⟩
      · intro L f A w6 Q hL hG hsz hlow hun hnl hp
        have e2 : A.tmps.getD 2 undef = Value.int .i64 (tn : Int) := hlow 2 rfl
        clear hlow hun hnl hp
        refine wpOp_go rfl rfl ?_
        go_simp
        first | exact ⟨_, rfl, hG.past 4 _ (by decide), ⟨⟩, rfl⟩ | exact ⟨hG.past 4 _ (by decide), ⟨⟩, rfl⟩ | exact ⟨hG.past 4 _ (by decide), rfl⟩ | exact hG.past 4 _ (by decide) | exact ⟨hG.past 4 _ (by decide), ⟨⟩⟩ | exact ⟨_, rfl, hG.past 4 _ (by decide), ⟨⟩, trivial⟩ | exact ⟨_, rfl, ⟨⟩, rfl⟩ | exact ⟨⟨⟩, rfl⟩
      · intro L f A w6 Q hL hG hsz hlow hun hnl hp
        have f3 : f 3 = Value.int .i64 (2 * (an : Int)) := (hp 3 rfl).2.1
        have e36 : A.tmps.getD 36 undef = Value.int .i64 (2 * (an : Int)) := ((hp 3 rfl).2.2 36 rfl).trans f3
        have f4 : f 4 = Value.int .i64 (tn : Int) := (hp 4 rfl).2.1
        have e37 : A.tmps.getD 37 undef = Value.int .i64 (tn : Int) := ((hp 4 rfl).2.2 37 rfl).trans f4
        have hm3 := HM3.out
        clear hlow hun hnl hp
        refine wpOp_go rfl rfl ?_
        go_simp
        first | exact ⟨_, rfl, hG.past 5 _ (by decide), ⟨⟩, rfl⟩ | exact ⟨hG.past 5 _ (by decide), ⟨⟩, rfl⟩ | exact ⟨hG.past 5 _ (by decide), rfl⟩ | exact hG.past 5 _ (by decide) | exact ⟨hG.past 5 _ (by decide), ⟨⟩⟩ | exact ⟨_, rfl, hG.past 5 _ (by decide), ⟨⟩, trivial⟩ | exact ⟨_, rfl, ⟨⟩, rfl⟩ | exact ⟨⟨⟩, rfl⟩
      · intro L f A w6 Q hL hG hsz hlow hun hnl hp
        have e12 : A.tmps.getD 12 undef = Value.pointer (some ⟨gB, 0, none⟩) := hlow 12 rfl
        clear hlow hun hnl hp
        refine wpOp_go rfl rfl ?_
        go_simp
        first | exact ⟨_, rfl, hG.past 6 _ (by decide), ⟨⟩, rfl⟩ | exact ⟨hG.past 6 _ (by decide), ⟨⟩, rfl⟩ | exact ⟨hG.past 6 _ (by decide), rfl⟩ | exact hG.past 6 _ (by decide) | exact ⟨hG.past 6 _ (by decide), ⟨⟩⟩ | exact ⟨_, rfl, hG.past 6 _ (by decide), ⟨⟩, trivial⟩ | exact ⟨_, rfl, ⟨⟩, rfl⟩ | exact ⟨⟨⟩, rfl⟩
      · intro L f A w6 Q hL hG hsz hlow hun hnl hp
        have f6 : f 6 = Value.pointer (some ⟨gB, 1, none⟩) := (hp 6 rfl).2.1
        have e39 : A.tmps.getD 39 undef = Value.pointer (some ⟨gB, 1, none⟩) := ((hp 6 rfl).2.2 39 rfl).trans f6
        have n19 := (hnl 19 7 hL rfl)
        have hbl := (hG.a n19).1
        have hcc : w6.cell? ⟨gB, 1, none⟩ = some (.slice (some ⟨bA, off, none⟩) x2.S.length x2.cS) := HBL.out w6 hbl
        clear hlow hun hnl hp
        refine wpOp_go rfl rfl ?_
        go_simp
        first | exact ⟨_, rfl, hG.past 7 _ (by decide), ⟨⟩, rfl⟩ | exact ⟨hG.past 7 _ (by decide), ⟨⟩, rfl⟩ | exact ⟨hG.past 7 _ (by decide), rfl⟩ | exact hG.past 7 _ (by decide) | exact ⟨hG.past 7 _ (by decide), ⟨⟩⟩ | exact ⟨_, rfl, hG.past 7 _ (by decide), ⟨⟩, trivial⟩ | exact ⟨_, rfl, ⟨⟩, rfl⟩ | exact ⟨⟨⟩, rfl⟩
      · intro L f A w6 Q hL hG hsz hlow hun hnl hp
        have e1 : A.tmps.getD 1 undef = Value.int .i64 (an : Int) := hlow 1 rfl
        clear hlow hun hnl hp
        refine wpOp_go rfl rfl ?_
        go_simp
        first | exact ⟨_, rfl, hG.past 8 _ (by decide), ⟨⟩, rfl⟩ | exact ⟨hG.past 8 _ (by decide), ⟨⟩, rfl⟩ | exact ⟨hG.past 8 _ (by decide), rfl⟩ | exact hG.past 8 _ (by decide) | exact ⟨hG.past 8 _ (by decide), ⟨⟩⟩ | exact ⟨_, rfl, hG.past 8 _ (by decide), ⟨⟩, trivial⟩ | exact ⟨_, rfl, ⟨⟩, rfl⟩ | exact ⟨⟨⟩, rfl⟩
      · intro L f A w6 Q hL hG hsz hlow hun hnl hp
        have f8 : f 8 = Value.int .i64 (an : Int) := (hp 8 rfl).2.1
        have e41 : A.tmps.getD 41 undef = Value.int .i64 (an : Int) := ((hp 8 rfl).2.2 41 rfl).trans f8
        have hm2 := HM2.out
        clear hlow hun hnl hp
        refine wpOp_go rfl rfl ?_
        go_simp
        first | exact ⟨_, rfl, hG.past 9 _ (by decide), ⟨⟩, rfl⟩ | exact ⟨hG.past 9 _ (by decide), ⟨⟩, rfl⟩ | exact ⟨hG.past 9 _ (by decide), rfl⟩ | exact hG.past 9 _ (by decide) | exact ⟨hG.past 9 _ (by decide), ⟨⟩⟩ | exact ⟨_, rfl, hG.past 9 _ (by decide), ⟨⟩, trivial⟩ | exact ⟨_, rfl, ⟨⟩, rfl⟩ | exact ⟨⟨⟩, rfl⟩
      · intro L f A w6 Q hL hG hsz hlow hun hnl hp
        have e2 : A.tmps.getD 2 undef = Value.int .i64 (tn : Int) := hlow 2 rfl
        clear hlow hun hnl hp
        refine wpOp_go rfl rfl ?_
        go_simp
        first | exact ⟨_, rfl, hG.past 10 _ (by decide), ⟨⟩, rfl⟩ | exact ⟨hG.past 10 _ (by decide), ⟨⟩, rfl⟩ | exact ⟨hG.past 10 _ (by decide), rfl⟩ | exact hG.past 10 _ (by decide) | exact ⟨hG.past 10 _ (by decide), ⟨⟩⟩ | exact ⟨_, rfl, hG.past 10 _ (by decide), ⟨⟩, trivial⟩ | exact ⟨_, rfl, ⟨⟩, rfl⟩ | exact ⟨⟨⟩, rfl⟩
      · intro L f A w6 Q hL hG hsz hlow hun hnl hp
        have f9 : f 9 = Value.int .i64 (2 * (an : Int)) := (hp 9 rfl).2.1
        have e42 : A.tmps.getD 42 undef = Value.int .i64 (2 * (an : Int)) := ((hp 9 rfl).2.2 42 rfl).trans f9
        have f10 : f 10 = Value.int .i64 (tn : Int) := (hp 10 rfl).2.1
        have e43 : A.tmps.getD 43 undef = Value.int .i64 (tn : Int) := ((hp 10 rfl).2.2 43 rfl).trans f10
        have hm3 := HM3.out
        clear hlow hun hnl hp
        refine wpOp_go rfl rfl ?_
        go_simp
        first | exact ⟨_, rfl, hG.past 11 _ (by decide), ⟨⟩, rfl⟩ | exact ⟨hG.past 11 _ (by decide), ⟨⟩, rfl⟩ | exact ⟨hG.past 11 _ (by decide), rfl⟩ | exact hG.past 11 _ (by decide) | exact ⟨hG.past 11 _ (by decide), ⟨⟩⟩ | exact ⟨_, rfl, hG.past 11 _ (by decide), ⟨⟩, trivial⟩ | exact ⟨_, rfl, ⟨⟩, rfl⟩ | exact ⟨⟨⟩, rfl⟩
      · intro L f A w6 Q hL hG hsz hlow hun hnl hp
        have f7 : f 7 = Value.slice (some ⟨bA, off, none⟩) x2.S.length x2.cS := (hp 7 rfl).2.1
        have e40 : A.tmps.getD 40 undef = Value.slice (some ⟨bA, off, none⟩) x2.S.length x2.cS := ((hp 7 rfl).2.2 40 rfl).trans f7
        have f11 : f 11 = Value.int .i64 (ix : Int) := (hp 11 rfl).2.1
        have e44 : A.tmps.getD 44 undef = Value.int .i64 (ix : Int) := ((hp 11 rfl).2.2 44 rfl).trans f11
        have hix := HIX.out
        have hixi : (ix : Int) < (x2.S.length : Int) := by omega
        clear hlow hun hnl hp
        refine wpOp_go rfl rfl ?_
        go_simp
        first | exact ⟨_, rfl, hG.past 12 _ (by decide), ⟨⟩, rfl⟩ | exact ⟨hG.past 12 _ (by decide), ⟨⟩, rfl⟩ | exact ⟨hG.past 12 _ (by decide), rfl⟩ | exact hG.past 12 _ (by decide) | exact ⟨hG.past 12 _ (by decide), ⟨⟩⟩ | exact ⟨_, rfl, hG.past 12 _ (by decide), ⟨⟩, trivial⟩ | exact ⟨_, rfl, ⟨⟩, rfl⟩ | exact ⟨⟨⟩, rfl⟩
      · intro L f A w6 Q hL hG hsz hlow hun hnl hp
        have f12 : f 12 = Value.pointer (some ⟨bA, off + ix, none⟩) := (hp 12 rfl).2.1
        have e45 : A.tmps.getD 45 undef = Value.pointer (some ⟨bA, off + ix, none⟩) := ((hp 12 rfl).2.2 45 rfl).trans f12
        have n19 := (hnl 19 13 hL rfl)
        have hbl := (hG.a n19).1
        have hcc := HYW.out w6 hbl
        clear hlow hun hnl hp
        refine wpOp_go rfl rfl ?_
        go_simp
        first | exact ⟨_, rfl, hG.past 13 _ (by decide), ⟨⟩, rfl⟩ | exact ⟨hG.past 13 _ (by decide), ⟨⟩, rfl⟩ | exact ⟨hG.past 13 _ (by decide), rfl⟩ | exact hG.past 13 _ (by decide) | exact ⟨hG.past 13 _ (by decide), ⟨⟩⟩ | exact ⟨_, rfl, hG.past 13 _ (by decide), ⟨⟩, trivial⟩ | exact ⟨_, rfl, ⟨⟩, rfl⟩ | exact ⟨⟨⟩, rfl⟩
      · intro L f A w6 Q hL hG hsz hlow hun hnl hp
        have e11 : A.tmps.getD 11 undef = Value.slice (some ad) 272 c5 := hlow 11 rfl
        clear hlow hun hnl hp
        refine wpOp_go rfl rfl ?_
        go_simp
        first | exact ⟨_, rfl, hG.past 14 _ (by decide), ⟨⟩, rfl⟩ | exact ⟨hG.past 14 _ (by decide), ⟨⟩, rfl⟩ | exact ⟨hG.past 14 _ (by decide), rfl⟩ | exact hG.past 14 _ (by decide) | exact ⟨hG.past 14 _ (by decide), ⟨⟩⟩ | exact ⟨_, rfl, hG.past 14 _ (by decide), ⟨⟩, trivial⟩ | exact ⟨_, rfl, ⟨⟩, rfl⟩ | exact ⟨⟨⟩, rfl⟩
      · intro L f A w6 Q hL hG hsz hlow hun hnl hp
        have e13 : A.tmps.getD 13 undef = Value.int .i64 (m : Int) := hlow 13 rfl
        clear hlow hun hnl hp
        refine wpOp_go rfl rfl ?_
        go_simp
        first | exact ⟨_, rfl, hG.past 15 _ (by decide), ⟨⟩, rfl⟩ | exact ⟨hG.past 15 _ (by decide), ⟨⟩, rfl⟩ | exact ⟨hG.past 15 _ (by decide), rfl⟩ | exact hG.past 15 _ (by decide) | exact ⟨hG.past 15 _ (by decide), ⟨⟩⟩ | exact ⟨_, rfl, hG.past 15 _ (by decide), ⟨⟩, trivial⟩ | exact ⟨_, rfl, ⟨⟩, rfl⟩ | exact ⟨⟨⟩, rfl⟩
      · intro L f A w6 Q hL hG hsz hlow hun hnl hp
        have f13 : f 13 = Value.slice yA yb.length yc := (hp 13 rfl).2.1
        have e46 : A.tmps.getD 46 undef = Value.slice yA yb.length yc := ((hp 13 rfl).2.2 46 rfl).trans f13
        have f14 : f 14 = Value.slice (some ad) 272 c5 := (hp 14 rfl).2.1
        have e47 : A.tmps.getD 47 undef = Value.slice (some ad) 272 c5 := ((hp 14 rfl).2.2 47 rfl).trans f14
        have f15 : f 15 = Value.int .i64 (m : Int) := (hp 15 rfl).2.1
        have e48 : A.tmps.getD 48 undef = Value.int .i64 (m : Int) := ((hp 15 rfl).2.2 48 rfl).trans f15
        have n17 := (hnl 17 16 hL rfl)
        have n19 := (hnl 19 16 hL rfl)
        have hbl := (hG.a n19).1
        clear hlow hun hnl hp
        refine wpOp_go rfl rfl ?_
        go_simp
        refine (rover_calls yA _ yc yb (HYF.out.rc.below hbl) rfl (some ad) 272 c5 (wideW bb) (HR5.out.below hbl) (wideW_len bb).symm m HMW.out HYL.out (by rw [wideW_len]; decide)).mono ?_
        rintro e w8 ⟨v8, rfl, ho, hb⟩
        rw [HOV.out] at ho
        obtain ⟨A9, c9, rfl, hc9, hf9⟩ := FrC.own (K := K6) ho (fun k hk => HK6.out k (Nat.le_trans hbl.size hk))
        exact ⟨_, rfl, hG.over (by decide) n17 n19 hb hc9 (fr_of hf9), ⟨⟩, trivial⟩
      · intro L f A w6 Q hL hG hsz hlow hun hnl hp
        have f1 : f 1 = Value.slice (some ⟨bA, off, none⟩) x2.S.length x2.cS := (hp 1 rfl).2.1
        have e34 : A.tmps.getD 34 undef = Value.slice (some ⟨bA, off, none⟩) x2.S.length x2.cS := ((hp 1 rfl).2.2 34 rfl).trans f1
        have f5 : f 5 = Value.int .i64 (ix : Int) := (hp 5 rfl).2.1
        have e38 : A.tmps.getD 38 undef = Value.int .i64 (ix : Int) := ((hp 5 rfl).2.2 38 rfl).trans f5
        have e49 : A.tmps.getD 49 undef = f 16 := (hp 16 rfl).2.2 49 rfl
        have v16 := (hp 16 rfl).2.1
        have n19 := (hnl 19 17 hL rfl)
        have hbl := (hG.a n19).1
        obtain ⟨A16, c16, h16, hc16, hf16⟩ := (hG.a n19).2.1 (hp 16 rfl).1
        rw [h16] at e49
        have l16 := (hp 16 rfl).1
        clear hlow hun hnl hp
        refine wpOp_go rfl rfl ?_
        go_simp
        refine (rwith_calls (K := K6) (fun k hk => HK6.out k (Nat.le_trans hbl.size hk)) (some ⟨bA, off, none⟩) _ x2.cS x2.S (HRS.out.below hbl) rfl HSL.out ix HIX.out ⟨A16, ov, c16⟩).mono ?_
        rintro e w8 ⟨A9, c9, rfl, hc9, hr9, hb9⟩
        exact ⟨_, rfl, hG.with (by decide) l16 n19 h16 hb9 hf16 hc16 hc9 hr9, ⟨⟩, trivial⟩
      · intro L f A w6 Q hL hG hsz hlow hun hnl hp
        have e12 : A.tmps.getD 12 undef = Value.pointer (some ⟨gB, 0, none⟩) := hlow 12 rfl
        clear hlow hun hnl hp
        refine wpOp_go rfl rfl ?_
        go_simp
        first | exact ⟨_, rfl, hG.past 18 _ (by decide), ⟨⟩, rfl⟩ | exact ⟨hG.past 18 _ (by decide), ⟨⟩, rfl⟩ | exact ⟨hG.past 18 _ (by decide), rfl⟩ | exact hG.past 18 _ (by decide) | exact ⟨hG.past 18 _ (by decide), ⟨⟩⟩ | exact ⟨_, rfl, hG.past 18 _ (by decide), ⟨⟩, trivial⟩ | exact ⟨_, rfl, ⟨⟩, rfl⟩ | exact ⟨⟨⟩, rfl⟩
      · intro L f A w6 Q hL hG hsz hlow hun hnl hp
        have e50 : A.tmps.getD 50 undef = f 17 := (hp 17 rfl).2.2 50 rfl
        have v17 := (hp 17 rfl).2.1
        have f18 : f 18 = Value.pointer (some ⟨gB, 1, none⟩) := (hp 18 rfl).2.1
        have e51 : A.tmps.getD 51 undef = Value.pointer (some ⟨gB, 1, none⟩) := ((hp 18 rfl).2.2 51 rfl).trans f18
        obtain ⟨A9, c9, h17, hbl, hS⟩ := hG.store (by decide) (hp 17 rfl).1 hL undef
        rw [h17] at e50
        have hob := HBK6.out.below hbl HBK6.out.lt
        have hcc : w6.cell? ⟨gB, 1, none⟩ = some (.slice (some ⟨bA, off, none⟩) x2.S.length x2.cS) := HBL.out w6 hbl
        have hff := hob.frz 1
        clear hlow hun hnl hp
        refine wpOp_go rfl rfl ?_
        go_simp
        first | exact ⟨undef, hS, ⟨⟩, trivial⟩ | exact ⟨undef, rfl, hS, ⟨⟩, trivial⟩ | exact ⟨_, rfl, hS, ⟨⟩, trivial⟩
    case fin =>
      intro L f w9 hLL hG hV
      obtain ⟨wm, A9, c9, A8, c8, hbm, hc9, hf9, hc8, hr8, hw9⟩ := hG.b (hLL 19 (by simp))
      have hxm := (HX6.out.below hbm).putS (y := ⟨A9, ov, c9⟩) (xs := (wideW bb).take m) HTN.out HIX2.out (by rw [HIXE.out]; exact hr8) hc8 hf9 hc9 HOL.out HOO.out
      have hx9 := hxm.step (Stp.tagged wm ⟨gB, 1, none⟩ HG6.out (.slice A8 x2.S.length c8))
      rw [← hw9] at hx9
      have hbk9 : Blk w9 gB 56 (withS x2 A8 (2 * an + tn) ⟨A9, ov, c9⟩ c8).cells := by rw [withS_cells, hw9]; exact (HBK6.out.below hbm HBK6.out.lt).set 1 _
      have hbx9 := (HBX.out.below hbm).far ⟨gB, 1, none⟩ HGZ.out (.slice A8 x2.S.length c8)
      rw [← hw9] at hbx9
      obtain ⟨x3, hx3⟩ : ∃ x3, withS x2 A8 (2 * an + tn) ⟨A9, ov, c9⟩ c8 = x3 := ⟨_, rfl⟩
      rw [hx3] at hx9 hbk9
      have HX7 := Hd.mk hx9; have HBK7 := Hd.mk hbk9; have HBX := Hd.mk hbx9
      clear hG hV hLL hbm hc9 hf9 hc8 hr8 hw9 hxm hx9 hbk9 hbx9 hx3
      simp only [fillD, Act.put, List.setIfInBounds_toArray, List.set_cons_zero, List.set_cons_succ]
      go_wp2_with (fail)
      refine region_stp (VF gB x3.cells.toArray x3.dead) (fun L Wx _ => G1 4 w9.drew (w9.drew.setRow (w.heap.size + 1) x3.cells.toArray) L Wx) NoR (by kernel_rfl) (by kernel_rfl) (by kernel_rfl) (by kernel_rfl) (fun _ => ⟨fun _ => rfl, nofun⟩) ?stab ?steps ?fin
      case stab => intro i j w1 w2 v o ho hij hwt hR h; exact h
      case steps =>
        refine StepsG.cons ?_ (StepsG.cons ?_ (StepsG.cons ?_ (StepsG.cons ?_ (StepsG.cons ?_ (StepsG.cons ?_ StepsG.nil)))))
        · intro L f A w6 Q hL hG hsz hlow hun hnl hp
          have e12 : A.tmps.getD 12 undef = Value.pointer (some ⟨gB, 0, none⟩) := hlow 12 rfl
          have n4 := (hnl 4 0 hL rfl)
          obtain rfl := hG.a n4
          clear hlow hun hnl hp
          refine wpOp_go rfl rfl (wp_load_row 56 (.tmp 12) rfl gB e12 56 x3.cells.toArray (0, 0) _ HBK7.out Try.underlying56 rfl t_info ⟨_, rfl, hG.past 0 (by decide), ⟨⟩, rfl⟩)
        · intro L f A w6 Q hL hG hsz hlow hun hnl hp
          have e12 : A.tmps.getD 12 undef = Value.pointer (some ⟨gB, 0, none⟩) := hlow 12 rfl
          clear hlow hun hnl hp
          refine wpOp_go rfl rfl ?_
          go_simp
          first | exact ⟨_, rfl, hG.past 1 (by decide), ⟨⟩, rfl⟩ | exact ⟨hG.past 1 (by decide), ⟨⟩, rfl⟩ | exact ⟨hG.past 1 (by decide), rfl⟩ | exact hG.past 1 (by decide) | exact ⟨hG.past 1 (by decide), ⟨⟩⟩ | exact ⟨_, rfl, hG.past 1 (by decide), ⟨⟩, trivial⟩ | exact ⟨_, rfl, ⟨⟩, rfl⟩ | exact ⟨⟨⟩, rfl⟩
        · intro L f A w6 Q hL hG hsz hlow hun hnl hp
          have f1 : f 1 = Value.pointer (some ⟨gB, 8, none⟩) := (hp 1 rfl).2.1
          have e53 : A.tmps.getD 53 undef = Value.pointer (some ⟨gB, 8, none⟩) := ((hp 1 rfl).2.2 53 rfl).trans f1
          have hcc : w6.cell? ⟨gB, 8, none⟩ = some (.bool x3.dead) := by
            cases h4 : L 4 with
            | false => rw [hG.a h4]; exact HBK7.out.drew.cell (i := 8) rfl
            | true => rw [hG.b h4]; exact (HBK7.out.drew.rowFar HNE.out _).cell (i := 8) rfl
          clear hlow hun hnl hp
          refine wpOp_go rfl rfl ?_
          go_simp
          first | exact ⟨_, rfl, hG.past 2 (by decide), ⟨⟩, rfl⟩ | exact ⟨hG.past 2 (by decide), ⟨⟩, rfl⟩ | exact ⟨hG.past 2 (by decide), rfl⟩ | exact hG.past 2 (by decide) | exact ⟨hG.past 2 (by decide), ⟨⟩⟩ | exact ⟨_, rfl, hG.past 2 (by decide), ⟨⟩, trivial⟩ | exact ⟨_, rfl, ⟨⟩, rfl⟩ | exact ⟨⟨⟩, rfl⟩
        · intro L f A w6 Q hL hG hsz hlow hun hnl hp
          have f2 : f 2 = Value.bool x3.dead := (hp 2 rfl).2.1
          have e54 : A.tmps.getD 54 undef = Value.bool x3.dead := ((hp 2 rfl).2.2 54 rfl).trans f2
          clear hlow hun hnl hp
          refine wpOp_go rfl rfl ?_
          go_simp
          first | exact ⟨_, rfl, hG.past 3 (by decide), ⟨⟩, rfl⟩ | exact ⟨hG.past 3 (by decide), ⟨⟩, rfl⟩ | exact ⟨hG.past 3 (by decide), rfl⟩ | exact hG.past 3 (by decide) | exact ⟨hG.past 3 (by decide), ⟨⟩⟩ | exact ⟨_, rfl, hG.past 3 (by decide), ⟨⟩, trivial⟩ | exact ⟨_, rfl, ⟨⟩, rfl⟩ | exact ⟨⟨⟩, rfl⟩
        · intro L f A w6 Q hL hG hsz hlow hun hnl hp
          have e8 : A.tmps.getD 8 undef = Value.pointer (some ⟨w.heap.size + 1, 0, none⟩) := hlow 8 rfl
          have f0 : f 0 = Value.agg x3.cells.toArray := (hp 0 rfl).2.1
          have e52 : A.tmps.getD 52 undef = Value.agg x3.cells.toArray := ((hp 0 rfl).2.2 52 rfl).trans f0
          obtain rfl := hG.a hL
          clear hlow hun hnl hp
          refine wpOp_go rfl rfl (wp_store_row 56 (.tmp 8) (.tmp 52) rfl (w.heap.size + 1) x3.cells.toArray e8 e52 56 zT.toArray HBX.out.b1.drew t_info rfl (t_all x3) ⟨undef, rfl, ⟨fun h => by simp at h, fun _ => rfl⟩, ⟨⟩, trivial⟩)
        · intro L f A w6 Q hL hG hsz hlow hun hnl hp
          have f3 : f 3 = Value.bool (!x3.dead) := (hp 3 rfl).2.1
          have e55 : A.tmps.getD 55 undef = Value.bool (!x3.dead) := ((hp 3 rfl).2.2 55 rfl).trans f3
          clear hlow hun hnl hp
          refine wpOp_go rfl rfl ?_
          go_simp
          first | exact ⟨_, rfl, hG.past 5 (by decide), ⟨⟩, rfl⟩ | exact ⟨hG.past 5 (by decide), ⟨⟩, rfl⟩ | exact ⟨hG.past 5 (by decide), rfl⟩ | exact hG.past 5 (by decide) | exact ⟨hG.past 5 (by decide), ⟨⟩⟩ | exact ⟨_, rfl, hG.past 5 (by decide), ⟨⟩, trivial⟩ | exact ⟨_, rfl, ⟨⟩, rfl⟩ | exact ⟨⟨⟩, rfl⟩
      case fin =>
        intro L f w8 hLL hG hV
        have E8 := Hd.mk (hG.b (hLL 4 (by simp)))
        have h5 : f 5 = _ := hV 5 (by simp)
        clear hG hV hLL
        simp only [fillD, Act.put, List.setIfInBounds_toArray, List.set_cons_zero, List.set_cons_succ]
        rw [h5]
        clear h5
        go_wp2_with fail
        have hb4 : Blk w8 (w.heap.size + 1) 56 x3.cells := by rw [E8.out]; exact HBX.out.b1.drew.putRow x3.cells
        have hst : Stp K6 K w9 w8 := by rw [E8.out]; exact (Stp.of_below (Below.refl _ w9).drew).trans (boxed_end HL6.out HT6.out w9.drew x3.cells.toArray)
        have hbw : Below w.heap.size w w8 := by rw [E8.out]; exact below_row HBX.out.bel.drew (by omega) _
        refine bodyPost_ret (results_cell_slot rfl _ _ (w.heap.size + 1) _ _ rfl rfl (load_row hb4 Try.underlying56 rfl t_info)) rfl ?_
        rw [HP.out, HR.out]
        exact ⟨x3, by rw [← HX7.out.e0.2.2.2.2.2]; rfl, HX7.out.step hst, hbw⟩
  · have hf2 : thereP s a t = false := by simpa using hth
    have HTH := Hd.mk hf2
    have HP : Hd (writeP s a t bb = s) := ⟨by unfold writeP; rw [if_neg hth]⟩
    have HR : Hd (writeR s a t bb = false) := ⟨by unfold writeR; rw [hf2]; rfl⟩
    have T1 : Hd True := ⟨trivial⟩
    clear hth hf2 h hf hsl
    go_enter Try.func42, Try.ntmps42
    go_wp2_with (first
      | (go_at_call 49; clear T1; refine (rthere_calls HX3.out a t).mono ?_; rw [HTH.out]; rintro e w1 ⟨rfl, hb1⟩; have HBX := Hd.mk (HBX.out.below hb1); have HBW := Hd.mk hb1; have HFB1 := Hd.mk (HFB3.out.below hb1); clear hb1)
      | (refine wpList_load_row rfl 56 (.tmp 4) rfl w.heap.size rfl 56 _ (0, 0) _ HBX.out.b0 Try.underlying56 rfl t_info ?_)
      | (refine wpList_store_row rfl 56 (.tmp 8) (.tmp 19) rfl (w.heap.size + 1) #[.int .i64 blocks, .slice AS sS.length cS, .slice AQ sQ.length cQ, .int .u64 counter, .slice AL sL.length cL, .int .i64 reads, .bool armed, .int .i64 power, .bool dead, .slice AT sT.length cT] rfl rfl 56 zT.toArray HBX.out.b1 t_info (zT_size _ rfl) (t_one _ _ _ _ _ _ _ _ _ _ _ _ _ _ _ _ _ _) ?_))
    have hb4 := HBX.out.b1.putRow [.int .i64 blocks, .slice AS sS.length cS, .slice AQ sQ.length cQ, .int .u64 counter, .slice AL sL.length cL, .int .i64 reads, .bool armed, .int .i64 power, .bool dead, .slice AT sT.length cT]
    have hbw := HBX.out.row #[.int .i64 blocks, .slice AS sS.length cS, .slice AQ sQ.length cQ, .int .u64 counter, .slice AL sL.length cL, .int .i64 reads, .bool armed, .int .i64 power, .bool dead, .slice AT sT.length cT]
    refine bodyPost_ret (results_cell_slot rfl _ _ (w.heap.size + 1) _ _ rfl rfl (load_row hb4 Try.underlying56 rfl t_info)) rfl ?_
    rw [HP.out, HR.out]
    exact ⟨_, rfl, HX.out.below hbw, hbw⟩
end
end Go.Proofs.Ytffhncpgknkkaaa
/-! from W06Rwt -/
namespace Go.Proofs.Ytffhncpgknkkaaa
open Go.RowKit Go.Sac
set_option linter.unusedVariables false
set_option linter.unusedSimpArgs false
section
variable {w : World} {K : Nat → Nat} {q : Nat} {x : Td} {s : Wd}
set_option maxRecDepth 100000 in
set_option maxHeartbeats 8000000 in
theorem rseal_calls (h : Tm w K q x s) (hK : ∀ k, w.heap.size ≤ k → K k = 0) (hq : q ≤ 1000000) (hf : Few s) (i : Int) (AB : Option Addr) (n cap : Nat) (bb : List UInt8) (hr : Fr w K AB bb) (e1 : n = bb.length) (hc : bb.length ≤ cap) (hn : bb.length ≤ 1099511627776) :
    Calls Try.prog 44 #[.agg x.cells.toArray, .int .i64 i, .slice AB n cap] w (RetTB K q (sealP s i bb) (sealR s i bb) w) := by
  have HTL : Hd (s.trace.length ≤ 1000000) := ⟨hf.trace⟩
  have HQ := Hd.mk hq
  have HFB := Hd.mk hr
  have HCB := Hd.mk hc
  have HNB := Hd.mk hn
  subst e1
  obtain ⟨blocks, AS, sS, cS, AQ, sQ, cQ, counter, AL, sL, cL, reads, armed, power, dead, AT, sT, cT⟩ := x
  have HX := Hd.mk h
  unfold Td.cells
  dsimp only
  obtain ⟨W, hW, hb, hk0, hk1, hz⟩ := two_boxes w [.int .i64 blocks, .slice AS sS.length cS, .slice AQ sQ.length cQ, .int .u64 counter, .slice AL sL.length cL, .int .i64 reads, .bool armed, .int .i64 power, .bool dead, .slice AT sT.length cT]
  have HBX : Hd (Bx w [.int .i64 blocks, .slice AS sS.length cS, .slice AQ sQ.length cQ, .int .u64 counter, .slice AL sL.length cL, .int .i64 reads, .bool armed, .int .i64 power, .bool dead, .slice AT sT.length cT] W) := ⟨⟨hb, hk0, hk1⟩⟩
  obtain ⟨K3, hl3, _, ht3, hh3, hs3⟩ := boxed_start hb hz hK
  have HX3 := Hd.mk (h.step hs3)
  have HFB3 := Hd.mk (hr.step hs3)
  have HL3 := Hd.mk hl3
  have HT3 := Hd.mk ht3
  have HK3 := Hd.mk hh3
  have HZ3 := Hd.mk hz
  have hsl : sQ.length = 2 := by have := congrArg List.length h.eq; simpa using this
  clear hb hk0 hk1 hz hK hr hc hn hq hl3 ht3 hh3 hs3
  have HQL : Hd (sQ.length = 2) := ⟨hsl⟩
  have hdx : dead = s.dead := h.e0.2.2.2.2.2
  have q8 := HBX.out.b0.cell (i := 8) rfl
  by_cases hth : sealedP s i = true
  · have hab := sealed_is hth
    obtain ⟨ix, rfl⟩ : ∃ ix : Nat, i = (ix : Int) := ⟨i.toNat, by omega⟩
    have HI01 : Hd (ix = 0 ∨ ix = 1) := ⟨by omega⟩
    have hi0 : ¬ (ix : Int) < 0 := by omega
    have hi1 : ¬ (ix : Int) > 1 := by omega
    obtain rfl : dead = false := hdx.trans hab.1
    have HDN : Hd ((noteP s 4 (ix : Int) 0 bb).dead = false) := ⟨hab.1⟩
    have HF0 : Hd (s.s0.length ≤ 1099511627776 ∧ s.s1.length ≤ 1099511627776) := ⟨hf.s0, hf.s1⟩
    obtain ⟨m, hm, hm2⟩ : ∃ m : Nat, takesK (noteP s 4 (ix : Int) 0 bb) (bb.length : Int) = (m : Int) ∧ m ≤ bb.length := by
      have hp := h.nm.2.2.2.2.2.1
      refine ⟨(takesK (noteP s 4 (ix : Int) 0 bb) (bb.length : Int)).toNat, ?_, ?_⟩
      · rw [Int.toNat_of_nonneg]
        unfold takesK noteP
        split
        · show (0 : Int) ≤ min _ s.power; omega
        · omega
      · unfold takesK noteP
        split
        · show (min _ s.power).toNat ≤ bb.length; omega
        · omega
    have HMK := Hd.mk hm
    have HMW : Hd (m ≤ bb.length) := ⟨hm2⟩
    have HPP : Hd (sealP s (ix : Int) bb = sealS (takesP (noteP s 4 (ix : Int) 0 bb) (bb.length : Int)) (ix : Int) (tornB (sealOf s (ix : Int)) bb m)) := ⟨by
      unfold sealP
      rw [if_pos hth]
      have : takesK s (bb.length : Int) = (m : Int) := hm
      rw [this]
      rfl⟩
    have HRR : Hd (∀ z, sealR s (ix : Int) bb = !(sealS (takesP (noteP s 4 (ix : Int) 0 bb) (bb.length : Int)) (ix : Int) z).dead) := ⟨fun z => by rw [sealS_dead]; unfold sealR; rw [hth]; rfl⟩
    clear hth hab hsl hm h hf hdx
    by_cases hme : m = bb.length
    · subst hme
      have HP : Hd (sealP s (ix : Int) bb = sealS (takesP (noteP s 4 (ix : Int) 0 bb) (bb.length : Int)) (ix : Int) bb) := ⟨by rw [HPP.out, torn_all]⟩
      have HR := Hd.mk (HRR.out bb)
      clear hm2
      go_enter Try.func44, Try.ntmps44
      go_wp2_with (first
        | (go_at_call 54
           have hql : x2.Q.length = 2 := by have := congrArg List.length HX6.out.eq; simpa using this
           refine (rwith_calls (K := K6) HK6.out x2.AQ _ x2.cQ x2.Q HX6.out.rq.rc rfl (by omega) ix (by have := HI01.out; omega) ⟨AB, bb, cap⟩).mono ?_
           rintro e w8 ⟨A9, c9, rfl, hc9, hr9, hb9⟩
           have HB9 := Hd.mk hb9
           have HC9 := Hd.mk hc9
           have HR9 := Hd.mk hr9
           have p2 := (HBK6.out.below hb9 HBK6.out.lt).cell (i := 2) rfl
           have f2 := (HBK6.out.below hb9 HBK6.out.lt).frz 2
           clear hc9 hr9 hb9 hql)
        | (go_at_call 51
           refine (rnote_calls HX3.out HK3.out HTL.out 4 (ix : Int) 0 AB _ cap bb HFB3.out rfl HCB.out).mono ?_
           rintro e w2 ⟨x1, rfl, h1, hb1⟩
           obtain ⟨w3, hw3, K4, g1, g2, g3, g4, g5, g6, g7, g8⟩ := box_made (w := w2) (K := K3) (fun k hk => HK3.out k (Nat.le_trans hb1.size hk)) x1
           have HW3 := Hd.mk hw3
           have HX4 := Hd.mk (h1.step g4)
           have HFB4 := Hd.mk ((HFB3.out.below hb1).step g4)
           have HB10 := Hd.mk g5
           have HL4 : Hd (∀ k, K4 k = 0 → K k = 0) := ⟨fun k hk => HL3.out k (g1 k hk)⟩
           have HT4 : Hd (K4 (w.heap.size + 1) ≠ 0) := ⟨fun e => HT3.out (g1 _ e)⟩
           have HG4 := Hd.mk g2
           have HK4 := Hd.mk g3
           have HBX := Hd.mk ((HBX.out.below hb1).below g6)
           clear h1 hb1 hw3 g1 g2 g3 g4 g5 g6 g7 g8)
        | (go_at_call 53
           refine (rtakes_calls HX4.out HDN.out bb.length HNB.out).mono ?_
           rw [HMK.out]
           rintro e w5 ⟨x2, rfl, h1, hb1⟩
           obtain ⟨w7, hw7, K6, g1, g2, g3, g4, g5, g6, g7, g8⟩ := box_made (w := w5) (K := K4) (fun k hk => HK4.out k (Nat.le_trans hb1.size hk)) x2
           have HW7 := Hd.mk hw7
           have HX6 := Hd.mk (h1.step g4)
           have HB57 := Hd.mk (hb1)
           have HB77 := Hd.mk (g6)
           have HS67 := Hd.mk ((Stp.of_below (K := K4) hb1).trans g4)
           have HBK6 := Hd.mk g5
           have HL6 : Hd (∀ k, K6 k = 0 → K k = 0) := ⟨fun k hk => HL4.out k (g1 k hk)⟩
           have HT6 : Hd (K6 (w.heap.size + 1) ≠ 0) := ⟨fun e => HT4.out (g1 _ e)⟩
           have HG6 := Hd.mk g2
           have HK6 := Hd.mk g3
           have HGZ : Hd (w.heap.size + 1 < w5.heap.size) := ⟨(HBX.out.below hb1).b1.lt⟩
           have HBX := Hd.mk ((HBX.out.below hb1).below g6)
           clear h1 hb1 hw7 g1 g2 g3 g4 g5 g6 g7 g8)
        | (refine wpList_load_row rfl 56 (.tmp 3) rfl w.heap.size rfl 56 _ (0, 0) _ HBX.out.b0 Try.underlying56 rfl t_info ?_)
        | (refine wpList_store_row rfl 56 (.tmp 8) (.tmp 25) rfl w2.heap.size x1.cells.toArray rfl rfl 56 zT.toArray (Blk.new w2 _ zT) t_info rfl (t_all x1) ?_; rw [HW3.out])
        | (refine wpList_load_row rfl 56 (.tmp 8) rfl w2.heap.size rfl 56 _ (0, 0) _ HB10.out Try.underlying56 rfl t_info ?_)
        | (refine wpList_store_row rfl 56 (.tmp 9) (.tmp 31) rfl w5.heap.size x2.cells.toArray rfl rfl 56 zT.toArray (Blk.new w5 _ zT) t_info rfl (t_all x2) ?_; rw [HW7.out]; have p2 := HBK6.out.cell (i := 2) rfl))
      obtain ⟨gB, hgB⟩ : ∃ gB, w5.heap.size = gB := ⟨_, rfl⟩
      rw [hgB] at HBK6 HG6 HGZ ⊢
      have HNE : Hd (gB ≠ w.heap.size + 1) := ⟨by have := HGZ.out; omega⟩
      have hfbb : Fr w8 K6 AB bb := (HFB4.out.step HS67.out).below HB9.out
      have hxm := (HX6.out.below HB9.out).putQ (y := ⟨AB, bb, cap⟩) HI01.out HR9.out HC9.out hfbb HCB.out
      have hx9 := hxm.step (Stp.tagged w8 ⟨gB, 2, none⟩ HG6.out (.slice A9 x2.Q.length c9))
      have hbk9 : Blk (w8.setCell ⟨gB, 2, none⟩ (.slice A9 x2.Q.length c9)) gB 56 (withQ x2 A9 ix ⟨AB, bb, cap⟩ c9).cells := by rw [withQ_cells]; exact (HBK6.out.below HB9.out HBK6.out.lt).set 2 _
      have hbx9 := (HBX.out.below HB9.out).far ⟨gB, 2, none⟩ HGZ.out (.slice A9 x2.Q.length c9)
      obtain ⟨x3, hx3⟩ : ∃ x3, withQ x2 A9 ix ⟨AB, bb, cap⟩ c9 = x3 := ⟨_, rfl⟩
      obtain ⟨w9, hw9⟩ : ∃ w9, w8.setCell ⟨gB, 2, none⟩ (.slice A9 x2.Q.length c9) = w9 := ⟨_, rfl⟩
      rw [hw9] at hx9 hbk9 hbx9 ⊢
      rw [hx3] at hx9 hbk9
      have HX7 := Hd.mk hx9; have HBK7 := Hd.mk hbk9; have HBX := Hd.mk hbx9
      clear hgB hfbb hxm hx9 hbk9 hbx9 hx3 hw9
      refine region_stp (VF gB x3.cells.toArray x3.dead) (fun L Wx _ => G1 4 w9.drew (w9.drew.setRow (w.heap.size + 1) x3.cells.toArray) L Wx) NoR (by kernel_rfl) (by kernel_rfl) (by kernel_rfl) (by kernel_rfl) (fun _ => ⟨fun _ => rfl, nofun⟩) ?stab ?steps ?fin
      case stab => intro i j w1 w2 v o ho hij hwt hR h; exact h
      case steps =>
        refine StepsG.cons ?_ (StepsG.cons ?_ (StepsG.cons ?_ (StepsG.cons ?_ (StepsG.cons ?_ (StepsG.cons ?_ StepsG.nil)))))
        · intro L f A w6 Q hL hG hsz hlow hun hnl hp
          have e9 : A.tmps.getD 9 undef = Value.pointer (some ⟨gB, 0, none⟩) := hlow 9 rfl
          have n4 := (hnl 4 0 hL rfl)
          obtain rfl := hG.a n4
          clear hlow hun hnl hp
          refine wpOp_go rfl rfl (wp_load_row 56 (.tmp 9) rfl gB e9 56 x3.cells.toArray (0, 0) _ HBK7.out Try.underlying56 rfl t_info ⟨_, rfl, hG.past 0 (by decide), ⟨⟩, rfl⟩)
        · intro L f A w6 Q hL hG hsz hlow hun hnl hp
          have e9 : A.tmps.getD 9 undef = Value.pointer (some ⟨gB, 0, none⟩) := hlow 9 rfl
          clear hlow hun hnl hp
          refine wpOp_go rfl rfl ?_
          go_simp
          first | exact ⟨_, rfl, hG.past 1 (by decide), ⟨⟩, rfl⟩ | exact ⟨hG.past 1 (by decide), ⟨⟩, rfl⟩ | exact ⟨hG.past 1 (by decide), rfl⟩ | exact hG.past 1 (by decide) | exact ⟨hG.past 1 (by decide), ⟨⟩⟩ | exact ⟨_, rfl, hG.past 1 (by decide), ⟨⟩, trivial⟩ | exact ⟨_, rfl, ⟨⟩, rfl⟩ | exact ⟨⟨⟩, rfl⟩
        · intro L f A w6 Q hL hG hsz hlow hun hnl hp
          have f1 : f 1 = Value.pointer (some ⟨gB, 8, none⟩) := (hp 1 rfl).2.1
          have e57 : A.tmps.getD 57 undef = Value.pointer (some ⟨gB, 8, none⟩) := ((hp 1 rfl).2.2 57 rfl).trans f1
          have hcc : w6.cell? ⟨gB, 8, none⟩ = some (.bool x3.dead) := by
            cases h4 : L 4 with
            | false => rw [hG.a h4]; exact HBK7.out.drew.cell (i := 8) rfl
            | true => rw [hG.b h4]; exact (HBK7.out.drew.rowFar HNE.out _).cell (i := 8) rfl
          clear hlow hun hnl hp
          refine wpOp_go rfl rfl ?_
          go_simp
          first | exact ⟨_, rfl, hG.past 2 (by decide), ⟨⟩, rfl⟩ | exact ⟨hG.past 2 (by decide), ⟨⟩, rfl⟩ | exact ⟨hG.past 2 (by decide), rfl⟩ | exact hG.past 2 (by decide) | exact ⟨hG.past 2 (by decide), ⟨⟩⟩ | exact ⟨_, rfl, hG.past 2 (by decide), ⟨⟩, trivial⟩ | exact ⟨_, rfl, ⟨⟩, rfl⟩ | exact ⟨⟨⟩, rfl⟩
        · intro L f A w6 Q hL hG hsz hlow hun hnl hp
          have f2 : f 2 = Value.bool x3.dead := (hp 2 rfl).2.1
          have e58 : A.tmps.getD 58 undef = Value.bool x3.dead := ((hp 2 rfl).2.2 58 rfl).trans f2
          clear hlow hun hnl hp
          refine wpOp_go rfl rfl ?_
          go_simp
          first | exact ⟨_, rfl, hG.past 3 (by decide), ⟨⟩, rfl⟩ | exact ⟨hG.past 3 (by decide), ⟨⟩, rfl⟩ | exact ⟨hG.past 3 (by decide), rfl⟩ | exact hG.past 3 (by decide) | exact ⟨hG.past 3 (by decide), ⟨⟩⟩ | exact ⟨_, rfl, hG.past 3 (by decide), ⟨⟩, trivial⟩ | exact ⟨_, rfl, ⟨⟩, rfl⟩ | exact ⟨⟨⟩, rfl⟩
        · intro L f A w6 Q hL hG hsz hlow hun hnl hp
          have e6 : A.tmps.getD 6 undef = Value.pointer (some ⟨w.heap.size + 1, 0, none⟩) := hlow 6 rfl
          have f0 : f 0 = Value.agg x3.cells.toArray := (hp 0 rfl).2.1
          have e56 : A.tmps.getD 56 undef = Value.agg x3.cells.toArray := ((hp 0 rfl).2.2 56 rfl).trans f0
          obtain rfl := hG.a hL
          clear hlow hun hnl hp
          refine wpOp_go rfl rfl (wp_store_row 56 (.tmp 6) (.tmp 56) rfl (w.heap.size + 1) x3.cells.toArray e6 e56 56 zT.toArray HBX.out.b1.drew t_info rfl (t_all x3) ⟨undef, rfl, ⟨fun h => by simp at h, fun _ => rfl⟩, ⟨⟩, trivial⟩)
        · intro L f A w6 Q hL hG hsz hlow hun hnl hp
          have f3 : f 3 = Value.bool (!x3.dead) := (hp 3 rfl).2.1
          have e59 : A.tmps.getD 59 undef = Value.bool (!x3.dead) := ((hp 3 rfl).2.2 59 rfl).trans f3
          clear hlow hun hnl hp
          refine wpOp_go rfl rfl ?_
          go_simp
          first | exact ⟨_, rfl, hG.past 5 (by decide), ⟨⟩, rfl⟩ | exact ⟨hG.past 5 (by decide), ⟨⟩, rfl⟩ | exact ⟨hG.past 5 (by decide), rfl⟩ | exact hG.past 5 (by decide) | exact ⟨hG.past 5 (by decide), ⟨⟩⟩ | exact ⟨_, rfl, hG.past 5 (by decide), ⟨⟩, trivial⟩ | exact ⟨_, rfl, ⟨⟩, rfl⟩ | exact ⟨⟨⟩, rfl⟩
      case fin =>
        intro L f w8 hLL hG hV
        have E8 := Hd.mk (hG.b (hLL 4 (by simp)))
        have h5 : f 5 = _ := hV 5 (by simp)
        clear hG hV hLL
        simp only [fillD, Act.put, List.setIfInBounds_toArray, List.set_cons_zero, List.set_cons_succ]
        rw [h5]
        clear h5
        go_wp2_with fail
        have hb4 : Blk w8 (w.heap.size + 1) 56 x3.cells := by rw [E8.out]; exact HBX.out.b1.drew.putRow x3.cells
        have hst : Stp K6 K w9 w8 := by rw [E8.out]; exact (Stp.of_below (Below.refl _ w9).drew).trans (boxed_end HL6.out HT6.out w9.drew x3.cells.toArray)
        have hbw : Below w.heap.size w w8 := by rw [E8.out]; exact below_row HBX.out.bel.drew (by omega) _
        refine bodyPost_ret (results_cell_slot rfl _ _ (w.heap.size + 1) _ _ rfl rfl (load_row hb4 Try.underlying56 rfl t_info)) rfl ?_
        rw [HP.out, HR.out]
        exact ⟨x3, by rw [← HX7.out.e0.2.2.2.2.2]; rfl, HX7.out.step hst, hbw⟩
    · have hmb : ((m : Int) == (bb.length : Int)) = false := by rw [beq_eq_false_iff_ne]; omega
      have hmn : (m == bb.length) = false := by rw [beq_eq_false_iff_ne]; exact hme
      have hmp : ¬ m = bb.length := hme
      clear hm2 hme
      go_enter Try.func44, Try.ntmps44
      go_wp2_with (first
        | (go_at_call 51
           refine (rnote_calls HX3.out HK3.out HTL.out 4 (ix : Int) 0 AB _ cap bb HFB3.out rfl HCB.out).mono ?_
           rintro e w2 ⟨x1, rfl, h1, hb1⟩
           obtain ⟨w3, hw3, K4, g1, g2, g3, g4, g5, g6, g7, g8⟩ := box_made (w := w2) (K := K3) (fun k hk => HK3.out k (Nat.le_trans hb1.size hk)) x1
           have HW3 := Hd.mk hw3
           have HX4 := Hd.mk (h1.step g4)
           have HFB4 := Hd.mk ((HFB3.out.below hb1).step g4)
           have HB10 := Hd.mk g5
           have HL4 : Hd (∀ k, K4 k = 0 → K k = 0) := ⟨fun k hk => HL3.out k (g1 k hk)⟩
           have HT4 : Hd (K4 (w.heap.size + 1) ≠ 0) := ⟨fun e => HT3.out (g1 _ e)⟩
           have HG4 := Hd.mk g2
           have HK4 := Hd.mk g3
           have HBX := Hd.mk ((HBX.out.below hb1).below g6)
           clear h1 hb1 hw3 g1 g2 g3 g4 g5 g6 g7 g8)
        | (go_at_call 53
           refine (rtakes_calls HX4.out HDN.out bb.length HNB.out).mono ?_
           rw [HMK.out]
           rintro e w5 ⟨x2, rfl, h1, hb1⟩
           obtain ⟨w7, hw7, K6, g1, g2, g3, g4, g5, g6, g7, g8⟩ := box_made (w := w5) (K := K4) (fun k hk => HK4.out k (Nat.le_trans hb1.size hk)) x2
           have HW7 := Hd.mk hw7
           have HX6 := Hd.mk (h1.step g4)
           have HB57 := Hd.mk (hb1)
           have HB77 := Hd.mk (g6)
           have HS67 := Hd.mk ((Stp.of_below (K := K4) hb1).trans g4)
           have HBK6 := Hd.mk g5
           have HL6 : Hd (∀ k, K6 k = 0 → K k = 0) := ⟨fun k hk => HL4.out k (g1 k hk)⟩
           have HT6 : Hd (K6 (w.heap.size + 1) ≠ 0) := ⟨fun e => HT4.out (g1 _ e)⟩
           have HG6 := Hd.mk g2
           have HK6 := Hd.mk g3
           have HGZ : Hd (w.heap.size + 1 < w5.heap.size) := ⟨(HBX.out.below hb1).b1.lt⟩
           have HBX := Hd.mk ((HBX.out.below hb1).below g6)
           clear h1 hb1 hw7 g1 g2 g3 g4 g5 g6 g7 g8)
        | (refine wpList_load_row rfl 56 (.tmp 3) rfl w.heap.size rfl 56 _ (0, 0) _ HBX.out.b0 Try.underlying56 rfl t_info ?_)
        | (refine wpList_store_row rfl 56 (.tmp 8) (.tmp 25) rfl w2.heap.size x1.cells.toArray rfl rfl 56 zT.toArray (Blk.new w2 _ zT) t_info rfl (t_all x1) ?_; rw [HW3.out])
        | (refine wpList_load_row rfl 56 (.tmp 8) rfl w2.heap.size rfl 56 _ (0, 0) _ HB10.out Try.underlying56 rfl t_info ?_)
        | (refine wpList_store_row rfl 56 (.tmp 9) (.tmp 31) rfl w5.heap.size x2.cells.toArray rfl rfl 56 zT.toArray (Blk.new w5 _ zT) t_info rfl (t_all x2) ?_; rw [HW7.out]))
      obtain ⟨gB, hgB⟩ : ∃ gB, w5.heap.size = gB := ⟨_, rfl⟩
      have hs2 := takes_same (noteP s 4 (ix : Int) 0 bb) (bb.length : Int)
      have hql : x2.Q.length = 2 := by have := congrArg List.length HX6.out.eq; simpa using this
      have hil : ix < x2.Q.length := by rw [hql]; have := HI01.out; omega
      obtain ⟨bA, off, hAS, hbA, hra⟩ := rcK_form rw_len (by decide) HX6.out.rq.rc (by omega)
      have hy := hra ix hil
      have hyf := HX6.out.hq _ (List.getElem_mem hil)
      have hyb : (x2.Q[ix]).b = sealOf s (ix : Int) := by
        have e := congrArg (fun z : List (List UInt8) => z[ix]?) HX6.out.eq
        have e : (x2.Q.map (·.b))[ix]? = ([(takesP (noteP s 4 (ix : Int) 0 bb) (bb.length : Int)).s0, (takesP (noteP s 4 (ix : Int) 0 bb) (bb.length : Int)).s1] : List (List UInt8))[ix]? := e
        rw [hs2.2.2.2.2.1, hs2.2.2.2.2.2, List.getElem?_map, List.getElem?_eq_getElem hil] at e
        rcases HI01.out with rfl | rfl
        · have := Option.some.inj e; exact this
        · have := Option.some.inj e; exact this
      obtain ⟨y, hye⟩ : ∃ y, x2.Q[ix] = y := ⟨_, rfl⟩
      rw [hye] at hy hyf hyb
      obtain ⟨yA, yb, yc⟩ := y
      replace hyb : yb = _ := hyb
      obtain ⟨ov, hov⟩ : ∃ ov, overR yb bb m = ov := ⟨_, rfl⟩
      have HOV := Hd.mk hov
      have HYL : Hd (yb.length ≤ 1099511627776) := ⟨by rw [hyb]; unfold sealOf; split; exact HF0.out.1; exact HF0.out.2⟩
      have HP : Hd (sealP s (ix : Int) bb = sealS (takesP (noteP s 4 (ix : Int) 0 bb) (bb.length : Int)) (ix : Int) ov) := ⟨by
        have hlt : m < bb.length := by have h1 := HMW.out; omega
        rw [HPP.out, ← hyb, ← hov]; unfold tornB overR; rw [if_pos hlt]⟩
      have HR := Hd.mk (HRR.out ov)
      have HIX := Hd.mk hil
      have HSL : Hd (x2.Q.length ≤ 1000000) := ⟨by rw [hql]; decide⟩
      have HYW : Hd (∀ W', Below w7.heap.size w7 W' → W'.cell? ⟨bA, off + ix, none⟩ = some (.slice yA yb.length yc)) := ⟨fun W' hb => by have := hy W' hb 0 _ rfl; simpa using this⟩
      have HYF : Hd (Fr w7 K6 yA yb) := ⟨hyf.1⟩
      have HRS : Hd (Rc w7 (some ⟨bA, off, none⟩) (rws x2.Q)) := ⟨by rw [← hAS]; exact HX6.out.rq.rc⟩
      have HFB := Hd.mk (HFB4.out.step HS67.out)
      rw [hgB] at HBK6 HG6 HGZ ⊢
      have HBL : Hd (∀ W', Below w7.heap.size w7 W' → W'.cell? ⟨gB, 2, none⟩ = some (.slice (some ⟨bA, off, none⟩) x2.Q.length x2.cQ)) := ⟨fun W' hb => by rw [← hAS]; exact (HBK6.out.below hb HBK6.out.lt).cell (i := 2) rfl⟩
      have HNE : Hd (gB ≠ w.heap.size + 1) := ⟨by have := HGZ.out; omega⟩
      clear hgB hs2 hql hil hAS hbA hra hy hyf hyb hye hov hmb hmn hmp
      refine region_stp (VSo gB 2 bA off x2.Q.length x2.cQ ix m yA yb yc (.slice AB bb.length cap)) (fun L Wx f => WG 10 11 13 w7 K6 x2.Q.length x2.Q ix ov gB 2 L Wx f) NoR (by kernel_rfl) (by kernel_rfl) (by kernel_rfl) (by kernel_rfl) (fun f => WG.start f) ?stab ?steps ?fin
      case stab => intro i j w1 w2 v o ho hij hwt hR h; exact h
      case steps =>
        refine StepsG.cons ?_ (StepsG.cons ?_ (StepsG.cons ?_ (StepsG.cons ?_ (StepsG.cons ?_ (StepsG.cons ?_ (StepsG.cons ?_ (StepsG.cons ?_ (StepsG.cons ?_ (StepsG.cons ?_ (StepsG.cons ?_ (StepsG.cons ?_ (StepsG.cons ?_ (StepsG.cons ?_ StepsG.nil)))))))))))))
        · intro L f A w6 Q hL hG hsz hlow hun hnl hp
          have e9 : A.tmps.getD 9 undef = Value.pointer (some ⟨gB, 0, none⟩) := hlow 9 rfl
          clear hlow hun hnl hp
          refine wpOp_go rfl rfl ?_
          go_simp
          first | exact ⟨_, rfl, hG.past 0 _ (by decide), ⟨⟩, rfl⟩ | exact ⟨hG.past 0 _ (by decide), ⟨⟩, rfl⟩ | exact ⟨hG.past 0 _ (by decide), rfl⟩ | exact hG.past 0 _ (by decide) | exact ⟨hG.past 0 _ (by decide), ⟨⟩⟩ | exact ⟨_, rfl, hG.past 0 _ (by decide), ⟨⟩, trivial⟩ | exact ⟨_, rfl, ⟨⟩, rfl⟩ | exact ⟨⟨⟩, rfl⟩
        · intro L f A w6 Q hL hG hsz hlow hun hnl hp
          have f0 : f 0 = Value.pointer (some ⟨gB, 2, none⟩) := (hp 0 rfl).2.1
          have e43 : A.tmps.getD 43 undef = Value.pointer (some ⟨gB, 2, none⟩) := ((hp 0 rfl).2.2 43 rfl).trans f0
          have n13 := (hnl 13 1 hL rfl)
          have hbl := (hG.a n13).1
          have hcc : w6.cell? ⟨gB, 2, none⟩ = some (.slice (some ⟨bA, off, none⟩) x2.Q.length x2.cQ) := HBL.out w6 hbl
          clear hlow hun hnl hp
          refine wpOp_go rfl rfl ?_
          go_simp
          first | exact ⟨_, rfl, hG.past 1 _ (by decide), ⟨⟩, rfl⟩ | exact ⟨hG.past 1 _ (by decide), ⟨⟩, rfl⟩ | exact ⟨hG.past 1 _ (by decide), rfl⟩ | exact hG.past 1 _ (by decide) | exact ⟨hG.past 1 _ (by decide), ⟨⟩⟩ | exact ⟨_, rfl, hG.past 1 _ (by decide), ⟨⟩, trivial⟩ | exact ⟨_, rfl, ⟨⟩, rfl⟩ | exact ⟨⟨⟩, rfl⟩
        · intro L f A w6 Q hL hG hsz hlow hun hnl hp
          have e1 : A.tmps.getD 1 undef = Value.int .i64 (ix : Int) := hlow 1 rfl
          clear hlow hun hnl hp
          refine wpOp_go rfl rfl ?_
          go_simp
          first | exact ⟨_, rfl, hG.past 2 _ (by decide), ⟨⟩, rfl⟩ | exact ⟨hG.past 2 _ (by decide), ⟨⟩, rfl⟩ | exact ⟨hG.past 2 _ (by decide), rfl⟩ | exact hG.past 2 _ (by decide) | exact ⟨hG.past 2 _ (by decide), ⟨⟩⟩ | exact ⟨_, rfl, hG.past 2 _ (by decide), ⟨⟩, trivial⟩ | exact ⟨_, rfl, ⟨⟩, rfl⟩ | exact ⟨⟨⟩, rfl⟩
        · intro L f A w6 Q hL hG hsz hlow hun hnl hp
          have e9 : A.tmps.getD 9 undef = Value.pointer (some ⟨gB, 0, none⟩) := hlow 9 rfl
          clear hlow hun hnl hp
          refine wpOp_go rfl rfl ?_
          go_simp
          first | exact ⟨_, rfl, hG.past 3 _ (by decide), ⟨⟩, rfl⟩ | exact ⟨hG.past 3 _ (by decide), ⟨⟩, rfl⟩ | exact ⟨hG.past 3 _ (by decide), rfl⟩ | exact hG.past 3 _ (by decide) | exact ⟨hG.past 3 _ (by decide), ⟨⟩⟩ | exact ⟨_, rfl, hG.past 3 _ (by decide), ⟨⟩, trivial⟩ | exact ⟨_, rfl, ⟨⟩, rfl⟩ | exact ⟨⟨⟩, rfl⟩
        · intro L f A w6 Q hL hG hsz hlow hun hnl hp
          have f3 : f 3 = Value.pointer (some ⟨gB, 2, none⟩) := (hp 3 rfl).2.1
          have e46 : A.tmps.getD 46 undef = Value.pointer (some ⟨gB, 2, none⟩) := ((hp 3 rfl).2.2 46 rfl).trans f3
          have n13 := (hnl 13 4 hL rfl)
          have hbl := (hG.a n13).1
          have hcc : w6.cell? ⟨gB, 2, none⟩ = some (.slice (some ⟨bA, off, none⟩) x2.Q.length x2.cQ) := HBL.out w6 hbl
          clear hlow hun hnl hp
          refine wpOp_go rfl rfl ?_
          go_simp
          first | exact ⟨_, rfl, hG.past 4 _ (by decide), ⟨⟩, rfl⟩ | exact ⟨hG.past 4 _ (by decide), ⟨⟩, rfl⟩ | exact ⟨hG.past 4 _ (by decide), rfl⟩ | exact hG.past 4 _ (by decide) | exact ⟨hG.past 4 _ (by decide), ⟨⟩⟩ | exact ⟨_, rfl, hG.past 4 _ (by decide), ⟨⟩, trivial⟩ | exact ⟨_, rfl, ⟨⟩, rfl⟩ | exact ⟨⟨⟩, rfl⟩
        · intro L f A w6 Q hL hG hsz hlow hun hnl hp
          have e1 : A.tmps.getD 1 undef = Value.int .i64 (ix : Int) := hlow 1 rfl
          clear hlow hun hnl hp
          refine wpOp_go rfl rfl ?_
          go_simp
          first | exact ⟨_, rfl, hG.past 5 _ (by decide), ⟨⟩, rfl⟩ | exact ⟨hG.past 5 _ (by decide), ⟨⟩, rfl⟩ | exact ⟨hG.past 5 _ (by decide), rfl⟩ | exact hG.past 5 _ (by decide) | exact ⟨hG.past 5 _ (by decide), ⟨⟩⟩ | exact ⟨_, rfl, hG.past 5 _ (by decide), ⟨⟩, trivial⟩ | exact ⟨_, rfl, ⟨⟩, rfl⟩ | exact ⟨⟨⟩, rfl⟩
        · intro L f A w6 Q hL hG hsz hlow hun hnl hp
          have f4 : f 4 = Value.slice (some ⟨bA, off, none⟩) x2.Q.length x2.cQ := (hp 4 rfl).2.1
          have e47 : A.tmps.getD 47 undef = Value.slice (some ⟨bA, off, none⟩) x2.Q.length x2.cQ := ((hp 4 rfl).2.2 47 rfl).trans f4
          have f5 : f 5 = Value.int .i64 (ix : Int) := (hp 5 rfl).2.1
          have e48 : A.tmps.getD 48 undef = Value.int .i64 (ix : Int) := ((hp 5 rfl).2.2 48 rfl).trans f5
          have hix := HIX.out
          have hixi : (ix : Int) < (x2.Q.length : Int) := by omega
          clear hlow hun hnl hp
          refine wpOp_go rfl rfl ?_
          go_simp
          first | exact ⟨_, rfl, hG.past 6 _ (by decide), ⟨⟩, rfl⟩ | exact ⟨hG.past 6 _ (by decide), ⟨⟩, rfl⟩ | exact ⟨hG.past 6 _ (by decide), rfl⟩ | exact hG.past 6 _ (by decide) | exact ⟨hG.past 6 _ (by decide), ⟨⟩⟩ | exact ⟨_, rfl, hG.past 6 _ (by decide), ⟨⟩, trivial⟩ | exact ⟨_, rfl, ⟨⟩, rfl⟩ | exact ⟨⟨⟩, rfl⟩
        · intro L f A w6 Q hL hG hsz hlow hun hnl hp
          have f6 : f 6 = Value.pointer (some ⟨bA, off + ix, none⟩) := (hp 6 rfl).2.1
          have e49 : A.tmps.getD 49 undef = Value.pointer (some ⟨bA, off + ix, none⟩) := ((hp 6 rfl).2.2 49 rfl).trans f6
          have n13 := (hnl 13 7 hL rfl)
          have hbl := (hG.a n13).1
          have hcc := HYW.out w6 hbl
          clear hlow hun hnl hp
          refine wpOp_go rfl rfl ?_
          go_simp
          first | exact ⟨_, rfl, hG.past 7 _ (by decide), ⟨⟩, rfl⟩ | exact ⟨hG.past 7 _ (by decide), ⟨⟩, rfl⟩ | exact ⟨hG.past 7 _ (by decide), rfl⟩ | exact hG.past 7 _ (by decide) | exact ⟨hG.past 7 _ (by decide), ⟨⟩⟩ | exact ⟨_, rfl, hG.past 7 _ (by decide), ⟨⟩, trivial⟩ | exact ⟨_, rfl, ⟨⟩, rfl⟩ | exact ⟨⟨⟩, rfl⟩
        · intro L f A w6 Q hL hG hsz hlow hun hnl hp
          have e2 : A.tmps.getD 2 undef = Value.slice AB bb.length cap := hlow 2 rfl
          clear hlow hun hnl hp
          refine wpOp_go rfl rfl ?_
          go_simp
          first | exact ⟨_, rfl, hG.past 8 _ (by decide), ⟨⟩, rfl⟩ | exact ⟨hG.past 8 _ (by decide), ⟨⟩, rfl⟩ | exact ⟨hG.past 8 _ (by decide), rfl⟩ | exact hG.past 8 _ (by decide) | exact ⟨hG.past 8 _ (by decide), ⟨⟩⟩ | exact ⟨_, rfl, hG.past 8 _ (by decide), ⟨⟩, trivial⟩ | exact ⟨_, rfl, ⟨⟩, rfl⟩ | exact ⟨⟨⟩, rfl⟩
        · intro L f A w6 Q hL hG hsz hlow hun hnl hp
          have e10 : A.tmps.getD 10 undef = Value.int .i64 (m : Int) := hlow 10 rfl
          clear hlow hun hnl hp
          refine wpOp_go rfl rfl ?_
          go_simp
          first | exact ⟨_, rfl, hG.past 9 _ (by decide), ⟨⟩, rfl⟩ | exact ⟨hG.past 9 _ (by decide), ⟨⟩, rfl⟩ | exact ⟨hG.past 9 _ (by decide), rfl⟩ | exact hG.past 9 _ (by decide) | exact ⟨hG.past 9 _ (by decide), ⟨⟩⟩ | exact ⟨_, rfl, hG.past 9 _ (by decide), ⟨⟩, trivial⟩ | exact ⟨_, rfl, ⟨⟩, rfl⟩ | exact ⟨⟨⟩, rfl⟩
        · intro L f A w6 Q hL hG hsz hlow hun hnl hp
          have f7 : f 7 = Value.slice yA yb.length yc := (hp 7 rfl).2.1
          have e50 : A.tmps.getD 50 undef = Value.slice yA yb.length yc := ((hp 7 rfl).2.2 50 rfl).trans f7
          have f8 : f 8 = Value.slice AB bb.length cap := (hp 8 rfl).2.1
          have e51 : A.tmps.getD 51 undef = Value.slice AB bb.length cap := ((hp 8 rfl).2.2 51 rfl).trans f8
          have f9 : f 9 = Value.int .i64 (m : Int) := (hp 9 rfl).2.1
          have e52 : A.tmps.getD 52 undef = Value.int .i64 (m : Int) := ((hp 9 rfl).2.2 52 rfl).trans f9
          have n11 := (hnl 11 10 hL rfl)
          have n13 := (hnl 13 10 hL rfl)
          have hbl := (hG.a n13).1
          clear hlow hun hnl hp
          refine wpOp_go rfl rfl ?_
          go_simp
          refine (rover_calls yA _ yc yb (HYF.out.rc.below hbl) rfl AB bb.length cap bb (HFB.out.rc.below hbl) rfl m HMW.out HYL.out HNB.out).mono ?_
          rintro e w8 ⟨v8, rfl, ho, hb⟩
          rw [HOV.out] at ho
          obtain ⟨A9, c9, rfl, hc9, hf9⟩ := FrC.own (K := K6) ho (fun k hk => HK6.out k (Nat.le_trans hbl.size hk))
          exact ⟨_, rfl, hG.over (by decide) n11 n13 hb hc9 (fr_of hf9), ⟨⟩, trivial⟩
        · intro L f A w6 Q hL hG hsz hlow hun hnl hp
          have f1 : f 1 = Value.slice (some ⟨bA, off, none⟩) x2.Q.length x2.cQ := (hp 1 rfl).2.1
          have e44 : A.tmps.getD 44 undef = Value.slice (some ⟨bA, off, none⟩) x2.Q.length x2.cQ := ((hp 1 rfl).2.2 44 rfl).trans f1
          have f2 : f 2 = Value.int .i64 (ix : Int) := (hp 2 rfl).2.1
          have e45 : A.tmps.getD 45 undef = Value.int .i64 (ix : Int) := ((hp 2 rfl).2.2 45 rfl).trans f2
          have e53 : A.tmps.getD 53 undef = f 10 := (hp 10 rfl).2.2 53 rfl
          have v10 := (hp 10 rfl).2.1
          have n13 := (hnl 13 11 hL rfl)
          have hbl := (hG.a n13).1
          obtain ⟨A16, c16, h16, hc16, hf16⟩ := (hG.a n13).2.1 (hp 10 rfl).1
          rw [h16] at e53
          have l16 := (hp 10 rfl).1
          clear hlow hun hnl hp
          refine wpOp_go rfl rfl ?_
          go_simp
          refine (rwith_calls (K := K6) (fun k hk => HK6.out k (Nat.le_trans hbl.size hk)) (some ⟨bA, off, none⟩) _ x2.cQ x2.Q (HRS.out.below hbl) rfl HSL.out ix HIX.out ⟨A16, ov, c16⟩).mono ?_
          rintro e w8 ⟨A9, c9, rfl, hc9, hr9, hb9⟩
          exact ⟨_, rfl, hG.with (by decide) l16 n13 h16 hb9 hf16 hc16 hc9 hr9, ⟨⟩, trivial⟩
        · intro L f A w6 Q hL hG hsz hlow hun hnl hp
          have e9 : A.tmps.getD 9 undef = Value.pointer (some ⟨gB, 0, none⟩) := hlow 9 rfl
          clear hlow hun hnl hp
          refine wpOp_go rfl rfl ?_
          go_simp
          first | exact ⟨_, rfl, hG.past 12 _ (by decide), ⟨⟩, rfl⟩ | exact ⟨hG.past 12 _ (by decide), ⟨⟩, rfl⟩ | exact ⟨hG.past 12 _ (by decide), rfl⟩ | exact hG.past 12 _ (by decide) | exact ⟨hG.past 12 _ (by decide), ⟨⟩⟩ | exact ⟨_, rfl, hG.past 12 _ (by decide), ⟨⟩, trivial⟩ | exact ⟨_, rfl, ⟨⟩, rfl⟩ | exact ⟨⟨⟩, rfl⟩
        · intro L f A w6 Q hL hG hsz hlow hun hnl hp
          have e54 : A.tmps.getD 54 undef = f 11 := (hp 11 rfl).2.2 54 rfl
          have v11 := (hp 11 rfl).2.1
          have f12 : f 12 = Value.pointer (some ⟨gB, 2, none⟩) := (hp 12 rfl).2.1
          have e55 : A.tmps.getD 55 undef = Value.pointer (some ⟨gB, 2, none⟩) := ((hp 12 rfl).2.2 55 rfl).trans f12
          obtain ⟨A9, c9, h17, hbl, hS⟩ := hG.store (by decide) (hp 11 rfl).1 hL undef
          rw [h17] at e54
          have hob := HBK6.out.below hbl HBK6.out.lt
          have hcc : w6.cell? ⟨gB, 2, none⟩ = some (.slice (some ⟨bA, off, none⟩) x2.Q.length x2.cQ) := HBL.out w6 hbl
          have hff := hob.frz 2
          clear hlow hun hnl hp
          refine wpOp_go rfl rfl ?_
          go_simp
          first | exact ⟨undef, hS, ⟨⟩, trivial⟩ | exact ⟨undef, rfl, hS, ⟨⟩, trivial⟩ | exact ⟨_, rfl, hS, ⟨⟩, trivial⟩
      case fin =>
        intro L f w9 hLL hG hV
        obtain ⟨wm, A9, c9, A8, c8, hbm, hc9, hf9, hc8, hr8, hw9⟩ := hG.b (hLL 13 (by simp))
        have hxm := (HX6.out.below hbm).putQ (y := ⟨A9, ov, c9⟩) HI01.out hr8 hc8 hf9 hc9
        have hx9 := hxm.step (Stp.tagged wm ⟨gB, 2, none⟩ HG6.out (.slice A8 x2.Q.length c8))
        rw [← hw9] at hx9
        have hbk9 : Blk w9 gB 56 (withQ x2 A8 ix ⟨A9, ov, c9⟩ c8).cells := by rw [withQ_cells, hw9]; exact (HBK6.out.below hbm HBK6.out.lt).set 2 _
        have hbx9 := (HBX.out.below hbm).far ⟨gB, 2, none⟩ HGZ.out (.slice A8 x2.Q.length c8)
        rw [← hw9] at hbx9
        obtain ⟨x3, hx3⟩ : ∃ x3, withQ x2 A8 ix ⟨A9, ov, c9⟩ c8 = x3 := ⟨_, rfl⟩
        rw [hx3] at hx9 hbk9
        have HX7 := Hd.mk hx9; have HBK7 := Hd.mk hbk9; have HBX := Hd.mk hbx9
        clear hG hV hLL hbm hc9 hf9 hc8 hr8 hw9 hxm hx9 hbk9 hbx9 hx3
        simp only [fillD, Act.put, List.setIfInBounds_toArray, List.set_cons_zero, List.set_cons_succ]
        go_wp2_with (fail)
        refine region_stp (VF gB x3.cells.toArray x3.dead) (fun L Wx _ => G1 4 w9.drew (w9.drew.setRow (w.heap.size + 1) x3.cells.toArray) L Wx) NoR (by kernel_rfl) (by kernel_rfl) (by kernel_rfl) (by kernel_rfl) (fun _ => ⟨fun _ => rfl, nofun⟩) ?stab ?steps ?fin
        case stab => intro i j w1 w2 v o ho hij hwt hR h; exact h
        case steps =>
          refine StepsG.cons ?_ (StepsG.cons ?_ (StepsG.cons ?_ (StepsG.cons ?_ (StepsG.cons ?_ (StepsG.cons ?_ StepsG.nil)))))
          · intro L f A w6 Q hL hG hsz hlow hun hnl hp
            have e9 : A.tmps.getD 9 undef = Value.pointer (some ⟨gB, 0, none⟩) := hlow 9 rfl
            have n4 := (hnl 4 0 hL rfl)
            obtain rfl := hG.a n4
            clear hlow hun hnl hp
            refine wpOp_go rfl rfl (wp_load_row 56 (.tmp 9) rfl gB e9 56 x3.cells.toArray (0, 0) _ HBK7.out Try.underlying56 rfl t_info ⟨_, rfl, hG.past 0 (by decide), ⟨⟩, rfl⟩)
          · intro L f A w6 Q hL hG hsz hlow hun hnl hp
            have e9 : A.tmps.getD 9 undef = Value.pointer (some ⟨gB, 0, none⟩) := hlow 9 rfl
            clear hlow hun hnl hp
            refine wpOp_go rfl rfl ?_
            go_simp
            first | exact ⟨_, rfl, hG.past 1 (by decide), ⟨⟩, rfl⟩ | exact ⟨hG.past 1 (by decide), ⟨⟩, rfl⟩ | exact ⟨hG.past 1 (by decide), rfl⟩ | exact hG.past 1 (by decide) | exact ⟨hG.past 1 (by decide), ⟨⟩⟩ | exact ⟨_, rfl, hG.past 1 (by decide), ⟨⟩, trivial⟩ | exact ⟨_, rfl, ⟨⟩, rfl⟩ | exact ⟨⟨⟩, rfl⟩
          · intro L f A w6 Q hL hG hsz hlow hun hnl hp
            have f1 : f 1 = Value.pointer (some ⟨gB, 8, none⟩) := (hp 1 rfl).2.1
            have e57 : A.tmps.getD 57 undef = Value.pointer (some ⟨gB, 8, none⟩) := ((hp 1 rfl).2.2 57 rfl).trans f1
            have hcc : w6.cell? ⟨gB, 8, none⟩ = some (.bool x3.dead) := by
              cases h4 : L 4 with
              | false => rw [hG.a h4]; exact HBK7.out.drew.cell (i := 8) rfl
              | true => rw [hG.b h4]; exact (HBK7.out.drew.rowFar HNE.out _).cell (i := 8) rfl
            clear hlow hun hnl hp
            refine wpOp_go rfl rfl ?_
            go_simp
            first | exact ⟨_, rfl, hG.past 2 (by decide), ⟨⟩, rfl⟩ | exact ⟨hG.past 2 (by decide), ⟨⟩, rfl⟩ | exact ⟨hG.past 2 (by decide), rfl⟩ | exact hG.past 2 (by decide) | exact ⟨hG.past 2 (by decide), ⟨⟩⟩ | exact ⟨_, rfl, hG.past 2 (by decide), ⟨⟩, trivial⟩ | exact ⟨_, rfl, ⟨⟩, rfl⟩ | exact ⟨⟨⟩, rfl⟩
          · intro L f A w6 Q hL hG hsz hlow hun hnl hp
            have f2 : f 2 = Value.bool x3.dead := (hp 2 rfl).2.1
            have e58 : A.tmps.getD 58 undef = Value.bool x3.dead := ((hp 2 rfl).2.2 58 rfl).trans f2
            clear hlow hun hnl hp
            refine wpOp_go rfl rfl ?_
            go_simp
            first | exact ⟨_, rfl, hG.past 3 (by decide), ⟨⟩, rfl⟩ | exact ⟨hG.past 3 (by decide), ⟨⟩, rfl⟩ | exact ⟨hG.past 3 (by decide), rfl⟩ | exact hG.past 3 (by decide) | exact ⟨hG.past 3 (by decide), ⟨⟩⟩ | exact ⟨_, rfl, hG.past 3 (by decide), ⟨⟩, trivial⟩ | exact ⟨_, rfl, ⟨⟩, rfl⟩ | exact ⟨⟨⟩, rfl⟩
          · intro L f A w6 Q hL hG hsz hlow hun hnl hp
            have e6 : A.tmps.getD 6 undef = Value.pointer (some ⟨w.heap.size + 1, 0, none⟩) := hlow 6 rfl
            have f0 : f 0 = Value.agg x3.cells.toArray := (hp 0 rfl).2.1
            have e56 : A.tmps.getD 56 undef = Value.agg x3.cells.toArray := ((hp 0 rfl).2.2 56 rfl).trans f0
            obtain rfl := hG.a hL
            clear hlow hun hnl hp
            refine wpOp_go rfl rfl (wp_store_row 56 (.tmp 6) (.tmp 56) rfl (w.heap.size + 1) x3.cells.toArray e6 e56 56 zT.toArray HBX.out.b1.drew t_info rfl (t_all x3) ⟨undef, rfl, ⟨fun h => by simp at h, fun _ => rfl⟩, ⟨⟩, trivial⟩)
          · intro L f A w6 Q hL hG hsz hlow hun hnl hp
            have f3 : f 3 = Value.bool (!x3.dead) := (hp 3 rfl).2.1
            have e59 : A.tmps.getD 59 undef = Value.bool (!x3.dead) := ((hp 3 rfl).2.2 59 rfl).trans f3
            clear hlow hun hnl hp
            refine wpOp_go rfl rfl ?_
            go_simp
            first | exact ⟨_, rfl, hG.past 5 (by decide), ⟨⟩, rfl⟩ | exact ⟨hG.past 5 (by decide), ⟨⟩, rfl⟩ | exact ⟨hG.past 5 (by decide), rfl⟩ | exact hG.past 5 (by decide) | exact ⟨hG.past 5 (by decide), ⟨⟩⟩ | exact ⟨_, rfl, hG.past 5 (by decide), ⟨⟩, trivial⟩ | exact ⟨_, rfl, ⟨⟩, rfl⟩ | exact ⟨⟨⟩, rfl⟩
        case fin =>
          intro L f w8 hLL hG hV
          have E8 := Hd.mk (hG.b (hLL 4 (by simp)))
          have h5 : f 5 = _ := hV 5 (by simp)
          clear hG hV hLL
          simp only [fillD, Act.put, List.setIfInBounds_toArray, List.set_cons_zero, List.set_cons_succ]
          rw [h5]
          clear h5
          go_wp2_with fail
          have hb4 : Blk w8 (w.heap.size + 1) 56 x3.cells := by rw [E8.out]; exact HBX.out.b1.drew.putRow x3.cells
          have hst : Stp K6 K w9 w8 := by rw [E8.out]; exact (Stp.of_below (Below.refl _ w9).drew).trans (boxed_end HL6.out HT6.out w9.drew x3.cells.toArray)
          have hbw : Below w.heap.size w w8 := by rw [E8.out]; exact below_row HBX.out.bel.drew (by omega) _
          refine bodyPost_ret (results_cell_slot rfl _ _ (w.heap.size + 1) _ _ rfl rfl (load_row hb4 Try.underlying56 rfl t_info)) rfl ?_
          rw [HP.out, HR.out]
          exact ⟨x3, by rw [← HX7.out.e0.2.2.2.2.2]; rfl, HX7.out.step hst, hbw⟩
  · have hf2 : sealedP s i = false := by simpa using hth
    have HP : Hd (sealP s i bb = s) := ⟨by unfold sealP; rw [if_neg hth]⟩
    have HR : Hd (sealR s i bb = false) := ⟨by unfold sealR; rw [hf2]; rfl⟩
    have hdi : s.dead = true ∨ (s.dead = false ∧ (i < 0 ∨ 1 < i)) := by
      unfold sealedP at hf2
      cases hd : s.dead
      · rw [hd] at hf2
        simp only [Bool.not_false, Bool.true_and, Bool.or_eq_false_iff, decide_eq_false_iff_not] at hf2
        exact .inr ⟨rfl, by omega⟩
      · exact .inl rfl
    clear hth hf2 h hf hsl
    rcases hdi with hd | ⟨hd, hi | hi⟩
    · obtain rfl : dead = true := hdx.trans hd
      clear hdx hd
      go_enter Try.func44, Try.ntmps44
      go_wp2_with (first
        | (refine wpList_load_row rfl 56 (.tmp 3) rfl w.heap.size rfl 56 _ (0, 0) _ HBX.out.b0 Try.underlying56 rfl t_info ?_)
        | (refine wpList_store_row rfl 56 (.tmp 6) (.tmp 21) rfl (w.heap.size + 1) #[.int .i64 blocks, .slice AS sS.length cS, .slice AQ sQ.length cQ, .int .u64 counter, .slice AL sL.length cL, .int .i64 reads, .bool armed, .int .i64 power, .bool true, .slice AT sT.length cT] rfl rfl 56 zT.toArray HBX.out.b1 t_info (zT_size _ rfl) (t_one _ _ _ _ _ _ _ _ _ _ _ _ _ _ _ _ _ _) ?_))
      have hb4 := HBX.out.b1.putRow [.int .i64 blocks, .slice AS sS.length cS, .slice AQ sQ.length cQ, .int .u64 counter, .slice AL sL.length cL, .int .i64 reads, .bool armed, .int .i64 power, .bool true, .slice AT sT.length cT]
      have hbw := HBX.out.row #[.int .i64 blocks, .slice AS sS.length cS, .slice AQ sQ.length cQ, .int .u64 counter, .slice AL sL.length cL, .int .i64 reads, .bool armed, .int .i64 power, .bool true, .slice AT sT.length cT]
      refine bodyPost_ret (results_cell_slot rfl _ _ (w.heap.size + 1) _ _ rfl rfl (load_row hb4 Try.underlying56 rfl t_info)) rfl ?_
      rw [HP.out, HR.out]
      exact ⟨_, rfl, HX.out.below hbw, hbw⟩
    · obtain rfl : dead = false := hdx.trans hd
      clear hdx hd
      go_enter Try.func44, Try.ntmps44
      go_wp2_with (first
        | (refine wpList_load_row rfl 56 (.tmp 3) rfl w.heap.size rfl 56 _ (0, 0) _ HBX.out.b0 Try.underlying56 rfl t_info ?_)
        | (refine wpList_store_row rfl 56 (.tmp 6) (.tmp 21) rfl (w.heap.size + 1) #[.int .i64 blocks, .slice AS sS.length cS, .slice AQ sQ.length cQ, .int .u64 counter, .slice AL sL.length cL, .int .i64 reads, .bool armed, .int .i64 power, .bool false, .slice AT sT.length cT] rfl rfl 56 zT.toArray HBX.out.b1 t_info (zT_size _ rfl) (t_one _ _ _ _ _ _ _ _ _ _ _ _ _ _ _ _ _ _) ?_))
      have hb4 := HBX.out.b1.putRow [.int .i64 blocks, .slice AS sS.length cS, .slice AQ sQ.length cQ, .int .u64 counter, .slice AL sL.length cL, .int .i64 reads, .bool armed, .int .i64 power, .bool false, .slice AT sT.length cT]
      have hbw := HBX.out.row #[.int .i64 blocks, .slice AS sS.length cS, .slice AQ sQ.length cQ, .int .u64 counter, .slice AL sL.length cL, .int .i64 reads, .bool armed, .int .i64 power, .bool false, .slice AT sT.length cT]
      refine bodyPost_ret (results_cell_slot rfl _ _ (w.heap.size + 1) _ _ rfl rfl (load_row hb4 Try.underlying56 rfl t_info)) rfl ?_
      rw [HP.out, HR.out]
      exact ⟨_, rfl, HX.out.below hbw, hbw⟩
    · obtain rfl : dead = false := hdx.trans hd
      have hi0 : ¬ i < 0 := by omega
      have hi1 : i > 1 := hi
      clear hdx hd
      go_enter Try.func44, Try.ntmps44
      go_wp2_with (first
        | (refine wpList_load_row rfl 56 (.tmp 3) rfl w.heap.size rfl 56 _ (0, 0) _ HBX.out.b0 Try.underlying56 rfl t_info ?_)
        | (refine wpList_store_row rfl 56 (.tmp 6) (.tmp 21) rfl (w.heap.size + 1) #[.int .i64 blocks, .slice AS sS.length cS, .slice AQ sQ.length cQ, .int .u64 counter, .slice AL sL.length cL, .int .i64 reads, .bool armed, .int .i64 power, .bool false, .slice AT sT.length cT] rfl rfl 56 zT.toArray HBX.out.b1 t_info (zT_size _ rfl) (t_one _ _ _ _ _ _ _ _ _ _ _ _ _ _ _ _ _ _) ?_))
      have hb4 := HBX.out.b1.putRow [.int .i64 blocks, .slice AS sS.length cS, .slice AQ sQ.length cQ, .int .u64 counter, .slice AL sL.length cL, .int .i64 reads, .bool armed, .int .i64 power, .bool false, .slice AT sT.length cT]
      have hbw := HBX.out.row #[.int .i64 blocks, .slice AS sS.length cS, .slice AQ sQ.length cQ, .int .u64 counter, .slice AL sL.length cL, .int .i64 reads, .bool armed, .int .i64 power, .bool false, .slice AT sT.length cT]
      refine bodyPost_ret (results_cell_slot rfl _ _ (w.heap.size + 1) _ _ rfl rfl (load_row hb4 Try.underlying56 rfl t_info)) rfl ?_
      rw [HP.out, HR.out]
      exact ⟨_, rfl, HX.out.below hbw, hbw⟩
end
end Go.Proofs.Ytffhncpgknkkaaa
