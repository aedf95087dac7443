/- W06SameTrace: two rows of what was traced that mean the same. -/
import Derived.Test.YtffhncpgknkkaaaBase12
import Derived.Test.YtffhncpgknkkaaaBase19
import Derived.Test.YtffhncpgknkkaaaW06World
namespace Go.Proofs.Ytffhncpgknkkaaa
open Go.RowKit Go.Sac
set_option linter.unusedVariables false
set_option linter.unusedSimpArgs false
def HeldR (w : World) (l : List Tr) : Prop := ∀ x ∈ l, Rc w x.A (bs x.b) ∧ x.b.length ≤ x.c
theorem HeldR.below {w w' : World} {l : List Tr} (h : HeldR w l) (hb : Below w.heap.size w w') : HeldR w' l := fun x hx => ⟨(h x hx).1.below hb, (h x hx).2⟩
theorem trs_four (x : Tr) : x.cells.length = 4 := rfl
def VST (bt ot bu ou n ca cb i : Nat) (k a t : Int) (At Au : Option Addr) (b : List UInt8) (ct cu : Nat) (j : Nat) (w : World) (v : Value) : Prop :=
  match j with
  | 0 => v = Value.slice (some ⟨bt, ot, none⟩) n ca
  | 1 => v = Value.int .i64 (i : Int)
  | 2 => v = Value.pointer (some ⟨bt, ot + i * 4, none⟩)
  | 3 => v = Value.pointer (some ⟨bt, ot + i * 4, none⟩)
  | 4 => v = Value.int .i64 k
  | 5 => v = Value.slice (some ⟨bu, ou, none⟩) n cb
  | 6 => v = Value.int .i64 (i : Int)
  | 7 => v = Value.pointer (some ⟨bu, ou + i * 4, none⟩)
  | 8 => v = Value.pointer (some ⟨bu, ou + i * 4, none⟩)
  | 9 => v = Value.int .i64 k
  | 10 => v = Value.bool false
  | 11 => v = Value.bool false
  | 12 => v = Value.slice (some ⟨bt, ot, none⟩) n ca
  | 13 => v = Value.int .i64 (i : Int)
  | 14 => v = Value.pointer (some ⟨bt, ot + i * 4, none⟩)
  | 15 => v = Value.pointer (some ⟨bt, ot + i * 4 + 1, none⟩)
  | 16 => v = Value.int .i64 a
  | 17 => v = Value.slice (some ⟨bu, ou, none⟩) n cb
  | 18 => v = Value.int .i64 (i : Int)
  | 19 => v = Value.pointer (some ⟨bu, ou + i * 4, none⟩)
  | 20 => v = Value.pointer (some ⟨bu, ou + i * 4 + 1, none⟩)
  | 21 => v = Value.int .i64 a
  | 22 => v = Value.bool false
  | 23 => v = Value.bool false
  | 24 => v = Value.bool false
  | 25 => v = Value.slice (some ⟨bt, ot, none⟩) n ca
  | 26 => v = Value.int .i64 (i : Int)
  | 27 => v = Value.pointer (some ⟨bt, ot + i * 4, none⟩)
  | 28 => v = Value.pointer (some ⟨bt, ot + i * 4 + 2, none⟩)
  | 29 => v = Value.int .i64 t
  | 30 => v = Value.slice (some ⟨bu, ou, none⟩) n cb
  | 31 => v = Value.int .i64 (i : Int)
  | 32 => v = Value.pointer (some ⟨bu, ou + i * 4, none⟩)
  | 33 => v = Value.pointer (some ⟨bu, ou + i * 4 + 2, none⟩)
  | 34 => v = Value.int .i64 t
  | 35 => v = Value.bool false
  | 36 => v = Value.bool false
  | 37 => v = Value.bool false
  | 38 => v = Value.slice (some ⟨bt, ot, none⟩) n ca
  | 39 => v = Value.int .i64 (i : Int)
  | 40 => v = Value.pointer (some ⟨bt, ot + i * 4, none⟩)
  | 41 => v = Value.pointer (some ⟨bt, ot + i * 4 + 3, none⟩)
  | 42 => v = Value.slice At (List.length b) ct
  | 43 => v = Value.string ⟨List.toArray b⟩
  | 44 => v = Value.slice (some ⟨bu, ou, none⟩) n cb
  | 45 => v = Value.int .i64 (i : Int)
  | 46 => v = Value.pointer (some ⟨bu, ou + i * 4, none⟩)
  | 47 => v = Value.pointer (some ⟨bu, ou + i * 4 + 3, none⟩)
  | 48 => v = Value.slice Au (List.length b) cu
  | 49 => v = Value.string ⟨List.toArray b⟩
  | 50 => v = Value.bool false
  | 51 => v = Value.bool false
  | _ => True
set_option maxRecDepth 100000 in
set_option maxHeartbeats 8000000 in
theorem sametrace_calls (A B : Option Addr) (n m ca cb : Nat) (T U : List Tr) (w : World) (hA : Rc w A (trs T)) (hB : Rc w B (trs U)) (hT : HeldR w T) (hU : HeldR w U) (e : T.map Tr.val = U.map Tr.val) (e1 : n = T.length) (e2 : m = U.length) (hn : n ≤ 140737488355328) :
    Calls Try.prog 27 #[.slice A n ca, .slice B m cb] w fun e w' => e = .returned (.bool true) ∧ Below w.heap.size w w' := by
  have hlen : T.length = U.length := by have := congrArg List.length e; simpa using this
  obtain rfl : m = n := by omega
  have HRA := Hd.mk hA
  have HRB := Hd.mk hB
  have HTT := Hd.mk hT
  have HTU := Hd.mk hU
  have EQ := Hd.mk e
  have E1 := Hd.mk e1
  have E2 := Hd.mk e2
  clear hA hB hT hU e e1 e2 hlen
  go_enter Try.func27, Try.ntmps27
  go_wp2
  go_loopw [5] (fun iv wr => ∃ i : Nat, iv = .int .i64 (i : Int) ∧ i ≤ m ∧ Hd (Below w.heap.size w wr)) (fun iv _ => m - (intOf iv).toNat)
  case atStart => exact ⟨0, rfl, Nat.zero_le _, ⟨Below.refl _ _⟩⟩
  case round =>
    obtain ⟨i, rfl, hi, HB0⟩ := hrel
    by_cases hlt : i < m
    · have hil : i < T.length := by rw [← E1.out]; exact hlt
      have hil2 : i < U.length := by rw [← E2.out]; exact hlt
      have hii : (i : Int) < (m : Int) := by omega
      have HLT : Hd (i < m) := ⟨hlt⟩
      obtain ⟨bt, ot, rfl, _, hrt⟩ := rcK_form trs_four (by decide) HRA.out (by omega)
      obtain ⟨bu, ou, rfl, _, hru⟩ := rcK_form trs_four (by decide) HRB.out (by omega)
      have ex : Tr.val T[i] = Tr.val U[i] := by
        have := congrArg (fun l => l[i]?) EQ.out
        simpa [List.getElem?_eq_getElem hil, List.getElem?_eq_getElem hil2] using this
      have h1 := hrt i hil
      have h2 := hru i hil2
      have h3 := (HTT.out T[i] (List.getElem_mem hil)).1
      have h4 := (HTU.out U[i] (List.getElem_mem hil2)).1
      obtain ⟨x, hx⟩ : ∃ x, T[i] = x := ⟨_, rfl⟩
      obtain ⟨y, hy⟩ : ∃ y, U[i] = y := ⟨_, rfl⟩
      rw [hx] at h1 h3 ex
      rw [hy] at h2 h4 ex
      obtain ⟨k, a, t, At, b, ct⟩ := x
      obtain ⟨k2, a2, t2, Au, b2, cu⟩ := y
      simp only [Tr.val, Prod.mk.injEq] at ex
      obtain ⟨rfl, rfl, rfl, rfl⟩ := ex
      have HT : Hd (∀ W, Below wr.heap.size wr W → W.rangeAt bt (ot + i * 4) [.int .i64 k, .int .i64 a, .int .i64 t, .slice At b.length ct]) := ⟨fun W hW => h1 W (below_then HB0.out HB0.out.size hW)⟩
      have HU : Hd (∀ W, Below wr.heap.size wr W → W.rangeAt bu (ou + i * 4) [.int .i64 k, .int .i64 a, .int .i64 t, .slice Au b.length cu]) := ⟨fun W hW => h2 W (below_then HB0.out HB0.out.size hW)⟩
      have HBT : Hd (∀ W, Below wr.heap.size wr W → Rc W At (bs b)) := ⟨fun W hW => h3.below (below_then HB0.out HB0.out.size hW)⟩
      have HBU : Hd (∀ W, Below wr.heap.size wr W → Rc W Au (bs b)) := ⟨fun W hW => h4.below (below_then HB0.out HB0.out.size hW)⟩
      clear h1 h2 h3 h4 hx hy hrt hru hlt
      go_wp2_with fail
      refine region_stp (VST bt ot bu ou m ca cb i k a t At Au b ct cu) (fun _ w' _ => Below wr.heap.size wr w') NoR (by kernel_rfl) (by kernel_rfl) (by kernel_rfl) (by kernel_rfl) (fun _ => (Below.refl _ _).drew) ?stab ?steps ?fin
      case stab => intro i j w1 w2 v o ho hij hwt hR h; exact h
      case steps =>
        refine StepsG.cons ?_ (StepsG.cons ?_ (StepsG.cons ?_ (StepsG.cons ?_ (StepsG.cons ?_ (StepsG.cons ?_ (StepsG.cons ?_ (StepsG.cons ?_ (StepsG.cons ?_ (StepsG.cons ?_ (StepsG.cons ?_ (StepsG.cons ?_ (StepsG.cons ?_ (StepsG.cons ?_ (StepsG.cons ?_ (StepsG.cons ?_ (StepsG.cons ?_ (StepsG.cons ?_ (StepsG.cons ?_ (StepsG.cons ?_ (StepsG.cons ?_ (StepsG.cons ?_ (StepsG.cons ?_ (StepsG.cons ?_ (StepsG.cons ?_ (StepsG.cons ?_ (StepsG.cons ?_ (StepsG.cons ?_ (StepsG.cons ?_ (StepsG.cons ?_ (StepsG.cons ?_ (StepsG.cons ?_ (StepsG.cons ?_ (StepsG.cons ?_ (StepsG.cons ?_ (StepsG.cons ?_ (StepsG.cons ?_ (StepsG.cons ?_ (StepsG.cons ?_ (StepsG.cons ?_ (StepsG.cons ?_ (StepsG.cons ?_ (StepsG.cons ?_ (StepsG.cons ?_ (StepsG.cons ?_ (StepsG.cons ?_ (StepsG.cons ?_ (StepsG.cons ?_ (StepsG.cons ?_ (StepsG.cons ?_ (StepsG.cons ?_ (StepsG.cons ?_ StepsG.nil)))))))))))))))))))))))))))))))))))))))))))))))))))
        · intro L f A w6 Q hL hG hsz hlow hun hnl hp
          have e0 : A.tmps.getD 0 undef = Value.slice (some ⟨bt, ot, none⟩) m ca := hlow 0 rfl
          clear hlow hun hnl hp
          refine wpOp_go rfl rfl ?_
          go_simp
          first | exact ⟨_, rfl, hG, ⟨⟩, rfl⟩ | exact ⟨hG, ⟨⟩, rfl⟩ | exact ⟨hG, rfl⟩ | exact hG | exact ⟨hG, ⟨⟩⟩ | exact ⟨_, rfl, hG, ⟨⟩, trivial⟩ | exact ⟨_, rfl, ⟨⟩, rfl⟩ | exact ⟨⟨⟩, rfl⟩
        · intro L f A w6 Q hL hG hsz hlow hun hnl hp
          have e5 : A.tmps.getD 5 undef = Value.int .i64 (i : Int) := hlow 5 rfl
          clear hlow hun hnl hp
          refine wpOp_go rfl rfl ?_
          go_simp
          first | exact ⟨_, rfl, hG, ⟨⟩, rfl⟩ | exact ⟨hG, ⟨⟩, rfl⟩ | exact ⟨hG, rfl⟩ | exact hG | exact ⟨hG, ⟨⟩⟩ | exact ⟨_, rfl, hG, ⟨⟩, trivial⟩ | exact ⟨_, rfl, ⟨⟩, rfl⟩ | exact ⟨⟨⟩, rfl⟩
        · intro L f A w6 Q hL hG hsz hlow hun hnl hp
          have f0 : f 0 = Value.slice (some ⟨bt, ot, none⟩) m ca := (hp 0 rfl).2.1
          have e17 : A.tmps.getD 17 undef = Value.slice (some ⟨bt, ot, none⟩) m ca := ((hp 0 rfl).2.2 17 rfl).trans f0
          have f1 : f 1 = Value.int .i64 (i : Int) := (hp 1 rfl).2.1
          have e18 : A.tmps.getD 18 undef = Value.int .i64 (i : Int) := ((hp 1 rfl).2.2 18 rfl).trans f1
          have hlt := HLT.out
          clear hlow hun hnl hp
          refine wpOp_go rfl rfl ?_
          go_simp
          first | exact ⟨_, rfl, hG, ⟨⟩, rfl⟩ | exact ⟨hG, ⟨⟩, rfl⟩ | exact ⟨hG, rfl⟩ | exact hG | exact ⟨hG, ⟨⟩⟩ | exact ⟨_, rfl, hG, ⟨⟩, trivial⟩ | exact ⟨_, rfl, ⟨⟩, rfl⟩ | exact ⟨⟨⟩, rfl⟩
        · intro L f A w6 Q hL hG hsz hlow hun hnl hp
          have f2 : f 2 = Value.pointer (some ⟨bt, ot + i * 4, none⟩) := (hp 2 rfl).2.1
          have e19 : A.tmps.getD 19 undef = Value.pointer (some ⟨bt, ot + i * 4, none⟩) := ((hp 2 rfl).2.2 19 rfl).trans f2
          clear hlow hun hnl hp
          refine wpOp_go rfl rfl ?_
          go_simp
          first | exact ⟨_, rfl, hG, ⟨⟩, rfl⟩ | exact ⟨hG, ⟨⟩, rfl⟩ | exact ⟨hG, rfl⟩ | exact hG | exact ⟨hG, ⟨⟩⟩ | exact ⟨_, rfl, hG, ⟨⟩, trivial⟩ | exact ⟨_, rfl, ⟨⟩, rfl⟩ | exact ⟨⟨⟩, rfl⟩
        · intro L f A w6 Q hL hG hsz hlow hun hnl hp
          have f3 : f 3 = Value.pointer (some ⟨bt, ot + i * 4, none⟩) := (hp 3 rfl).2.1
          have e20 : A.tmps.getD 20 undef = Value.pointer (some ⟨bt, ot + i * 4, none⟩) := ((hp 3 rfl).2.2 20 rfl).trans f3
          have hcell : w6.cell? ⟨bt, ot + i * 4, none⟩ = some (Value.int .i64 k) := HT.out w6 hG 0 _ rfl
          clear hlow hun hnl hp
          refine wpOp_go rfl rfl ?_
          go_simp
          first | exact ⟨_, rfl, hG, ⟨⟩, rfl⟩ | exact ⟨hG, ⟨⟩, rfl⟩ | exact ⟨hG, rfl⟩ | exact hG | exact ⟨hG, ⟨⟩⟩ | exact ⟨_, rfl, hG, ⟨⟩, trivial⟩ | exact ⟨_, rfl, ⟨⟩, rfl⟩ | exact ⟨⟨⟩, rfl⟩
        · intro L f A w6 Q hL hG hsz hlow hun hnl hp
          have e1 : A.tmps.getD 1 undef = Value.slice (some ⟨bu, ou, none⟩) m cb := hlow 1 rfl
          clear hlow hun hnl hp
          refine wpOp_go rfl rfl ?_
          go_simp
          first | exact ⟨_, rfl, hG, ⟨⟩, rfl⟩ | exact ⟨hG, ⟨⟩, rfl⟩ | exact ⟨hG, rfl⟩ | exact hG | exact ⟨hG, ⟨⟩⟩ | exact ⟨_, rfl, hG, ⟨⟩, trivial⟩ | exact ⟨_, rfl, ⟨⟩, rfl⟩ | exact ⟨⟨⟩, rfl⟩
        · intro L f A w6 Q hL hG hsz hlow hun hnl hp
          have e5 : A.tmps.getD 5 undef = Value.int .i64 (i : Int) := hlow 5 rfl
          clear hlow hun hnl hp
          refine wpOp_go rfl rfl ?_
          go_simp
          first | exact ⟨_, rfl, hG, ⟨⟩, rfl⟩ | exact ⟨hG, ⟨⟩, rfl⟩ | exact ⟨hG, rfl⟩ | exact hG | exact ⟨hG, ⟨⟩⟩ | exact ⟨_, rfl, hG, ⟨⟩, trivial⟩ | exact ⟨_, rfl, ⟨⟩, rfl⟩ | exact ⟨⟨⟩, rfl⟩
        · intro L f A w6 Q hL hG hsz hlow hun hnl hp
          have f5 : f 5 = Value.slice (some ⟨bu, ou, none⟩) m cb := (hp 5 rfl).2.1
          have e22 : A.tmps.getD 22 undef = Value.slice (some ⟨bu, ou, none⟩) m cb := ((hp 5 rfl).2.2 22 rfl).trans f5
          have f6 : f 6 = Value.int .i64 (i : Int) := (hp 6 rfl).2.1
          have e23 : A.tmps.getD 23 undef = Value.int .i64 (i : Int) := ((hp 6 rfl).2.2 23 rfl).trans f6
          have hlt := HLT.out
          clear hlow hun hnl hp
          refine wpOp_go rfl rfl ?_
          go_simp
          first | exact ⟨_, rfl, hG, ⟨⟩, rfl⟩ | exact ⟨hG, ⟨⟩, rfl⟩ | exact ⟨hG, rfl⟩ | exact hG | exact ⟨hG, ⟨⟩⟩ | exact ⟨_, rfl, hG, ⟨⟩, trivial⟩ | exact ⟨_, rfl, ⟨⟩, rfl⟩ | exact ⟨⟨⟩, rfl⟩
        · intro L f A w6 Q hL hG hsz hlow hun hnl hp
          have f7 : f 7 = Value.pointer (some ⟨bu, ou + i * 4, none⟩) := (hp 7 rfl).2.1
          have e24 : A.tmps.getD 24 undef = Value.pointer (some ⟨bu, ou + i * 4, none⟩) := ((hp 7 rfl).2.2 24 rfl).trans f7
          clear hlow hun hnl hp
          refine wpOp_go rfl rfl ?_
          go_simp
          first | exact ⟨_, rfl, hG, ⟨⟩, rfl⟩ | exact ⟨hG, ⟨⟩, rfl⟩ | exact ⟨hG, rfl⟩ | exact hG | exact ⟨hG, ⟨⟩⟩ | exact ⟨_, rfl, hG, ⟨⟩, trivial⟩ | exact ⟨_, rfl, ⟨⟩, rfl⟩ | exact ⟨⟨⟩, rfl⟩
        · intro L f A w6 Q hL hG hsz hlow hun hnl hp
          have f8 : f 8 = Value.pointer (some ⟨bu, ou + i * 4, none⟩) := (hp 8 rfl).2.1
          have e25 : A.tmps.getD 25 undef = Value.pointer (some ⟨bu, ou + i * 4, none⟩) := ((hp 8 rfl).2.2 25 rfl).trans f8
          have hcell : w6.cell? ⟨bu, ou + i * 4, none⟩ = some (Value.int .i64 k) := HU.out w6 hG 0 _ rfl
          clear hlow hun hnl hp
          refine wpOp_go rfl rfl ?_
          go_simp
          first | exact ⟨_, rfl, hG, ⟨⟩, rfl⟩ | exact ⟨hG, ⟨⟩, rfl⟩ | exact ⟨hG, rfl⟩ | exact hG | exact ⟨hG, ⟨⟩⟩ | exact ⟨_, rfl, hG, ⟨⟩, trivial⟩ | exact ⟨_, rfl, ⟨⟩, rfl⟩ | exact ⟨⟨⟩, rfl⟩
        · intro L f A w6 Q hL hG hsz hlow hun hnl hp
          have f4 : f 4 = Value.int .i64 k := (hp 4 rfl).2.1
          have e21 : A.tmps.getD 21 undef = Value.int .i64 k := ((hp 4 rfl).2.2 21 rfl).trans f4
          have f9 : f 9 = Value.int .i64 k := (hp 9 rfl).2.1
          have e26 : A.tmps.getD 26 undef = Value.int .i64 k := ((hp 9 rfl).2.2 26 rfl).trans f9
          clear hlow hun hnl hp
          refine wpOp_go rfl rfl ?_
          go_simp
          first | exact ⟨_, rfl, hG, ⟨⟩, rfl⟩ | exact ⟨hG, ⟨⟩, rfl⟩ | exact ⟨hG, rfl⟩ | exact hG | exact ⟨hG, ⟨⟩⟩ | exact ⟨_, rfl, hG, ⟨⟩, trivial⟩ | exact ⟨_, rfl, ⟨⟩, rfl⟩ | exact ⟨⟨⟩, rfl⟩
        · intro L f A w6 Q hL hG hsz hlow hun hnl hp
          have f10 : f 10 = Value.bool false := (hp 10 rfl).2.1
          have e27 : A.tmps.getD 27 undef = Value.bool false := ((hp 10 rfl).2.2 27 rfl).trans f10
          clear hlow hun hnl hp
          refine wpOp_go rfl rfl ?_
          go_simp
          first | exact ⟨_, rfl, hG, ⟨⟩, rfl⟩ | exact ⟨hG, ⟨⟩, rfl⟩ | exact ⟨hG, rfl⟩ | exact hG | exact ⟨hG, ⟨⟩⟩ | exact ⟨_, rfl, hG, ⟨⟩, trivial⟩ | exact ⟨_, rfl, ⟨⟩, rfl⟩ | exact ⟨⟨⟩, rfl⟩
        · intro L f A w6 Q hL hG hsz hlow hun hnl hp
          have e0 : A.tmps.getD 0 undef = Value.slice (some ⟨bt, ot, none⟩) m ca := hlow 0 rfl
          have e28 : A.tmps.getD 28 undef = Value.bool false := ((hp 11 rfl).2.2 28 rfl).trans (hp 11 rfl).2.1
          clear hlow hun hnl hp
          refine wpOp_go rfl ((wanted_of (want := false) (b := false) rfl rfl e28).trans rfl) ?_
          go_simp
          first | exact ⟨_, rfl, hG, ⟨⟩, rfl⟩ | exact ⟨hG, ⟨⟩, rfl⟩ | exact ⟨hG, rfl⟩ | exact hG | exact ⟨hG, ⟨⟩⟩ | exact ⟨_, rfl, hG, ⟨⟩, trivial⟩ | exact ⟨_, rfl, ⟨⟩, rfl⟩ | exact ⟨⟨⟩, rfl⟩
        · intro L f A w6 Q hL hG hsz hlow hun hnl hp
          have e5 : A.tmps.getD 5 undef = Value.int .i64 (i : Int) := hlow 5 rfl
          have e28 : A.tmps.getD 28 undef = Value.bool false := ((hp 11 rfl).2.2 28 rfl).trans (hp 11 rfl).2.1
          clear hlow hun hnl hp
          refine wpOp_go rfl ((wanted_of (want := false) (b := false) rfl rfl e28).trans rfl) ?_
          go_simp
          first | exact ⟨_, rfl, hG, ⟨⟩, rfl⟩ | exact ⟨hG, ⟨⟩, rfl⟩ | exact ⟨hG, rfl⟩ | exact hG | exact ⟨hG, ⟨⟩⟩ | exact ⟨_, rfl, hG, ⟨⟩, trivial⟩ | exact ⟨_, rfl, ⟨⟩, rfl⟩ | exact ⟨⟨⟩, rfl⟩
        · intro L f A w6 Q hL hG hsz hlow hun hnl hp
          have f12 : f 12 = Value.slice (some ⟨bt, ot, none⟩) m ca := (hp 12 rfl).2.1
          have e29 : A.tmps.getD 29 undef = Value.slice (some ⟨bt, ot, none⟩) m ca := ((hp 12 rfl).2.2 29 rfl).trans f12
          have f13 : f 13 = Value.int .i64 (i : Int) := (hp 13 rfl).2.1
          have e30 : A.tmps.getD 30 undef = Value.int .i64 (i : Int) := ((hp 13 rfl).2.2 30 rfl).trans f13
          have e28 : A.tmps.getD 28 undef = Value.bool false := ((hp 11 rfl).2.2 28 rfl).trans (hp 11 rfl).2.1
          have hlt := HLT.out
          clear hlow hun hnl hp
          refine wpOp_go rfl ((wanted_of (want := false) (b := false) rfl rfl e28).trans rfl) ?_
          go_simp
          first | exact ⟨_, rfl, hG, ⟨⟩, rfl⟩ | exact ⟨hG, ⟨⟩, rfl⟩ | exact ⟨hG, rfl⟩ | exact hG | exact ⟨hG, ⟨⟩⟩ | exact ⟨_, rfl, hG, ⟨⟩, trivial⟩ | exact ⟨_, rfl, ⟨⟩, rfl⟩ | exact ⟨⟨⟩, rfl⟩
        · intro L f A w6 Q hL hG hsz hlow hun hnl hp
          have f14 : f 14 = Value.pointer (some ⟨bt, ot + i * 4, none⟩) := (hp 14 rfl).2.1
          have e31 : A.tmps.getD 31 undef = Value.pointer (some ⟨bt, ot + i * 4, none⟩) := ((hp 14 rfl).2.2 31 rfl).trans f14
          have e28 : A.tmps.getD 28 undef = Value.bool false := ((hp 11 rfl).2.2 28 rfl).trans (hp 11 rfl).2.1
          clear hlow hun hnl hp
          refine wpOp_go rfl ((wanted_of (want := false) (b := false) rfl rfl e28).trans rfl) ?_
          go_simp
          first | exact ⟨_, rfl, hG, ⟨⟩, rfl⟩ | exact ⟨hG, ⟨⟩, rfl⟩ | exact ⟨hG, rfl⟩ | exact hG | exact ⟨hG, ⟨⟩⟩ | exact ⟨_, rfl, hG, ⟨⟩, trivial⟩ | exact ⟨_, rfl, ⟨⟩, rfl⟩ | exact ⟨⟨⟩, rfl⟩
        · intro L f A w6 Q hL hG hsz hlow hun hnl hp
          have f15 : f 15 = Value.pointer (some ⟨bt, ot + i * 4 + 1, none⟩) := (hp 15 rfl).2.1
          have e32 : A.tmps.getD 32 undef = Value.pointer (some ⟨bt, ot + i * 4 + 1, none⟩) := ((hp 15 rfl).2.2 32 rfl).trans f15
          have e28 : A.tmps.getD 28 undef = Value.bool false := ((hp 11 rfl).2.2 28 rfl).trans (hp 11 rfl).2.1
          have hcell : w6.cell? ⟨bt, ot + i * 4 + 1, none⟩ = some (Value.int .i64 a) := HT.out w6 hG 1 _ rfl
          clear hlow hun hnl hp
          refine wpOp_go rfl ((wanted_of (want := false) (b := false) rfl rfl e28).trans rfl) ?_
          go_simp
          first | exact ⟨_, rfl, hG, ⟨⟩, rfl⟩ | exact ⟨hG, ⟨⟩, rfl⟩ | exact ⟨hG, rfl⟩ | exact hG | exact ⟨hG, ⟨⟩⟩ | exact ⟨_, rfl, hG, ⟨⟩, trivial⟩ | exact ⟨_, rfl, ⟨⟩, rfl⟩ | exact ⟨⟨⟩, rfl⟩
        · intro L f A w6 Q hL hG hsz hlow hun hnl hp
          have e1 : A.tmps.getD 1 undef = Value.slice (some ⟨bu, ou, none⟩) m cb := hlow 1 rfl
          have e28 : A.tmps.getD 28 undef = Value.bool false := ((hp 11 rfl).2.2 28 rfl).trans (hp 11 rfl).2.1
          clear hlow hun hnl hp
          refine wpOp_go rfl ((wanted_of (want := false) (b := false) rfl rfl e28).trans rfl) ?_
          go_simp
          first | exact ⟨_, rfl, hG, ⟨⟩, rfl⟩ | exact ⟨hG, ⟨⟩, rfl⟩ | exact ⟨hG, rfl⟩ | exact hG | exact ⟨hG, ⟨⟩⟩ | exact ⟨_, rfl, hG, ⟨⟩, trivial⟩ | exact ⟨_, rfl, ⟨⟩, rfl⟩ | exact ⟨⟨⟩, rfl⟩
        · intro L f A w6 Q hL hG hsz hlow hun hnl hp
          have e5 : A.tmps.getD 5 undef = Value.int .i64 (i : Int) := hlow 5 rfl
          have e28 : A.tmps.getD 28 undef = Value.bool false := ((hp 11 rfl).2.2 28 rfl).trans (hp 11 rfl).2.1
          clear hlow hun hnl hp
          refine wpOp_go rfl ((wanted_of (want := false) (b := false) rfl rfl e28).trans rfl) ?_
          go_simp
          first | exact ⟨_, rfl, hG, ⟨⟩, rfl⟩ | exact ⟨hG, ⟨⟩, rfl⟩ | exact ⟨hG, rfl⟩ | exact hG | exact ⟨hG, ⟨⟩⟩ | exact ⟨_, rfl, hG, ⟨⟩, trivial⟩ | exact ⟨_, rfl, ⟨⟩, rfl⟩ | exact ⟨⟨⟩, rfl⟩
        · intro L f A w6 Q hL hG hsz hlow hun hnl hp
          have f17 : f 17 = Value.slice (some ⟨bu, ou, none⟩) m cb := (hp 17 rfl).2.1
          have e34 : A.tmps.getD 34 undef = Value.slice (some ⟨bu, ou, none⟩) m cb := ((hp 17 rfl).2.2 34 rfl).trans f17
          have f18 : f 18 = Value.int .i64 (i : Int) := (hp 18 rfl).2.1
          have e35 : A.tmps.getD 35 undef = Value.int .i64 (i : Int) := ((hp 18 rfl).2.2 35 rfl).trans f18
          have e28 : A.tmps.getD 28 undef = Value.bool false := ((hp 11 rfl).2.2 28 rfl).trans (hp 11 rfl).2.1
          have hlt := HLT.out
          clear hlow hun hnl hp
          refine wpOp_go rfl ((wanted_of (want := false) (b := false) rfl rfl e28).trans rfl) ?_
          go_simp
          first | exact ⟨_, rfl, hG, ⟨⟩, rfl⟩ | exact ⟨hG, ⟨⟩, rfl⟩ | exact ⟨hG, rfl⟩ | exact hG | exact ⟨hG, ⟨⟩⟩ | exact ⟨_, rfl, hG, ⟨⟩, trivial⟩ | exact ⟨_, rfl, ⟨⟩, rfl⟩ | exact ⟨⟨⟩, rfl⟩
        · intro L f A w6 Q hL hG hsz hlow hun hnl hp
          have f19 : f 19 = Value.pointer (some ⟨bu, ou + i * 4, none⟩) := (hp 19 rfl).2.1
          have e36 : A.tmps.getD 36 undef = Value.pointer (some ⟨bu, ou + i * 4, none⟩) := ((hp 19 rfl).2.2 36 rfl).trans f19
          have e28 : A.tmps.getD 28 undef = Value.bool false := ((hp 11 rfl).2.2 28 rfl).trans (hp 11 rfl).2.1
          clear hlow hun hnl hp
          refine wpOp_go rfl ((wanted_of (want := false) (b := false) rfl rfl e28).trans rfl) ?_
          go_simp
          first | exact ⟨_, rfl, hG, ⟨⟩, rfl⟩ | exact ⟨hG, ⟨⟩, rfl⟩ | exact ⟨hG, rfl⟩ | exact hG | exact ⟨hG, ⟨⟩⟩ | exact ⟨_, rfl, hG, ⟨⟩, trivial⟩ | exact ⟨_, rfl, ⟨⟩, rfl⟩ | exact ⟨⟨⟩, rfl⟩
        · intro L f A w6 Q hL hG hsz hlow hun hnl hp
          have f20 : f 20 = Value.pointer (some ⟨bu, ou + i * 4 + 1, none⟩) := (hp 20 rfl).2.1
          have e37 : A.tmps.getD 37 undef = Value.pointer (some ⟨bu, ou + i * 4 + 1, none⟩) := ((hp 20 rfl).2.2 37 rfl).trans f20
          have e28 : A.tmps.getD 28 undef = Value.bool false := ((hp 11 rfl).2.2 28 rfl).trans (hp 11 rfl).2.1
          have hcell : w6.cell? ⟨bu, ou + i * 4 + 1, none⟩ = some (Value.int .i64 a) := HU.out w6 hG 1 _ rfl
          clear hlow hun hnl hp
          refine wpOp_go rfl ((wanted_of (want := false) (b := false) rfl rfl e28).trans rfl) ?_
          go_simp
          first | exact ⟨_, rfl, hG, ⟨⟩, rfl⟩ | exact ⟨hG, ⟨⟩, rfl⟩ | exact ⟨hG, rfl⟩ | exact hG | exact ⟨hG, ⟨⟩⟩ | exact ⟨_, rfl, hG, ⟨⟩, trivial⟩ | exact ⟨_, rfl, ⟨⟩, rfl⟩ | exact ⟨⟨⟩, rfl⟩
        · intro L f A w6 Q hL hG hsz hlow hun hnl hp
          have f16 : f 16 = Value.int .i64 a := (hp 16 rfl).2.1
          have e33 : A.tmps.getD 33 undef = Value.int .i64 a := ((hp 16 rfl).2.2 33 rfl).trans f16
          have f21 : f 21 = Value.int .i64 a := (hp 21 rfl).2.1
          have e38 : A.tmps.getD 38 undef = Value.int .i64 a := ((hp 21 rfl).2.2 38 rfl).trans f21
          have e28 : A.tmps.getD 28 undef = Value.bool false := ((hp 11 rfl).2.2 28 rfl).trans (hp 11 rfl).2.1
          clear hlow hun hnl hp
          refine wpOp_go rfl ((wanted_of (want := false) (b := false) rfl rfl e28).trans rfl) ?_
          go_simp
          first | exact ⟨_, rfl, hG, ⟨⟩, rfl⟩ | exact ⟨hG, ⟨⟩, rfl⟩ | exact ⟨hG, rfl⟩ | exact hG | exact ⟨hG, ⟨⟩⟩ | exact ⟨_, rfl, hG, ⟨⟩, trivial⟩ | exact ⟨_, rfl, ⟨⟩, rfl⟩ | exact ⟨⟨⟩, rfl⟩
        · intro L f A w6 Q hL hG hsz hlow hun hnl hp
          have f11 : f 11 = Value.bool false := (hp 11 rfl).2.1
          have e28 : A.tmps.getD 28 undef = Value.bool false := ((hp 11 rfl).2.2 28 rfl).trans f11
          have f22 : f 22 = Value.bool false := (hp 22 rfl).2.1
          have e39 : A.tmps.getD 39 undef = Value.bool false := ((hp 22 rfl).2.2 39 rfl).trans f22
          clear hlow hun hnl hp
          refine wpOp_go rfl rfl ?_
          go_simp
          first | exact ⟨_, rfl, hG, ⟨⟩, rfl⟩ | exact ⟨hG, ⟨⟩, rfl⟩ | exact ⟨hG, rfl⟩ | exact hG | exact ⟨hG, ⟨⟩⟩ | exact ⟨_, rfl, hG, ⟨⟩, trivial⟩ | exact ⟨_, rfl, ⟨⟩, rfl⟩ | exact ⟨⟨⟩, rfl⟩
        · intro L f A w6 Q hL hG hsz hlow hun hnl hp
          have f23 : f 23 = Value.bool false := (hp 23 rfl).2.1
          have e40 : A.tmps.getD 40 undef = Value.bool false := ((hp 23 rfl).2.2 40 rfl).trans f23
          clear hlow hun hnl hp
          refine wpOp_go rfl rfl ?_
          go_simp
          first | exact ⟨_, rfl, hG, ⟨⟩, rfl⟩ | exact ⟨hG, ⟨⟩, rfl⟩ | exact ⟨hG, rfl⟩ | exact hG | exact ⟨hG, ⟨⟩⟩ | exact ⟨_, rfl, hG, ⟨⟩, trivial⟩ | exact ⟨_, rfl, ⟨⟩, rfl⟩ | exact ⟨⟨⟩, rfl⟩
        · intro L f A w6 Q hL hG hsz hlow hun hnl hp
          have e0 : A.tmps.getD 0 undef = Value.slice (some ⟨bt, ot, none⟩) m ca := hlow 0 rfl
          have e41 : A.tmps.getD 41 undef = Value.bool false := ((hp 24 rfl).2.2 41 rfl).trans (hp 24 rfl).2.1
          clear hlow hun hnl hp
          refine wpOp_go rfl ((wanted_of (want := false) (b := false) rfl rfl e41).trans rfl) ?_
          go_simp
          first | exact ⟨_, rfl, hG, ⟨⟩, rfl⟩ | exact ⟨hG, ⟨⟩, rfl⟩ | exact ⟨hG, rfl⟩ | exact hG | exact ⟨hG, ⟨⟩⟩ | exact ⟨_, rfl, hG, ⟨⟩, trivial⟩ | exact ⟨_, rfl, ⟨⟩, rfl⟩ | exact ⟨⟨⟩, rfl⟩
        · intro L f A w6 Q hL hG hsz hlow hun hnl hp
          have e5 : A.tmps.getD 5 undef = Value.int .i64 (i : Int) := hlow 5 rfl
          have e41 : A.tmps.getD 41 undef = Value.bool false := ((hp 24 rfl).2.2 41 rfl).trans (hp 24 rfl).2.1
          clear hlow hun hnl hp
          refine wpOp_go rfl ((wanted_of (want := false) (b := false) rfl rfl e41).trans rfl) ?_
          go_simp
          first | exact ⟨_, rfl, hG, ⟨⟩, rfl⟩ | exact ⟨hG, ⟨⟩, rfl⟩ | exact ⟨hG, rfl⟩ | exact hG | exact ⟨hG, ⟨⟩⟩ | exact ⟨_, rfl, hG, ⟨⟩, trivial⟩ | exact ⟨_, rfl, ⟨⟩, rfl⟩ | exact ⟨⟨⟩, rfl⟩
        · intro L f A w6 Q hL hG hsz hlow hun hnl hp
          have f25 : f 25 = Value.slice (some ⟨bt, ot, none⟩) m ca := (hp 25 rfl).2.1
          have e42 : A.tmps.getD 42 undef = Value.slice (some ⟨bt, ot, none⟩) m ca := ((hp 25 rfl).2.2 42 rfl).trans f25
          have f26 : f 26 = Value.int .i64 (i : Int) := (hp 26 rfl).2.1
          have e43 : A.tmps.getD 43 undef = Value.int .i64 (i : Int) := ((hp 26 rfl).2.2 43 rfl).trans f26
          have e41 : A.tmps.getD 41 undef = Value.bool false := ((hp 24 rfl).2.2 41 rfl).trans (hp 24 rfl).2.1
          have hlt := HLT.out
          clear hlow hun hnl hp
          refine wpOp_go rfl ((wanted_of (want := false) (b := false) rfl rfl e41).trans rfl) ?_
          go_simp
          first | exact ⟨_, rfl, hG, ⟨⟩, rfl⟩ | exact ⟨hG, ⟨⟩, rfl⟩ | exact ⟨hG, rfl⟩ | exact hG | exact ⟨hG, ⟨⟩⟩ | exact ⟨_, rfl, hG, ⟨⟩, trivial⟩ | exact ⟨_, rfl, ⟨⟩, rfl⟩ | exact ⟨⟨⟩, rfl⟩
        · intro L f A w6 Q hL hG hsz hlow hun hnl hp
          have f27 : f 27 = Value.pointer (some ⟨bt, ot + i * 4, none⟩) := (hp 27 rfl).2.1
          have e44 : A.tmps.getD 44 undef = Value.pointer (some ⟨bt, ot + i * 4, none⟩) := ((hp 27 rfl).2.2 44 rfl).trans f27
          have e41 : A.tmps.getD 41 undef = Value.bool false := ((hp 24 rfl).2.2 41 rfl).trans (hp 24 rfl).2.1
          clear hlow hun hnl hp
          refine wpOp_go rfl ((wanted_of (want := false) (b := false) rfl rfl e41).trans rfl) ?_
          go_simp
          first | exact ⟨_, rfl, hG, ⟨⟩, rfl⟩ | exact ⟨hG, ⟨⟩, rfl⟩ | exact ⟨hG, rfl⟩ | exact hG | exact ⟨hG, ⟨⟩⟩ | exact ⟨_, rfl, hG, ⟨⟩, trivial⟩ | exact ⟨_, rfl, ⟨⟩, rfl⟩ | exact ⟨⟨⟩, rfl⟩
        · intro L f A w6 Q hL hG hsz hlow hun hnl hp
          have f28 : f 28 = Value.pointer (some ⟨bt, ot + i * 4 + 2, none⟩) := (hp 28 rfl).2.1
          have e45 : A.tmps.getD 45 undef = Value.pointer (some ⟨bt, ot + i * 4 + 2, none⟩) := ((hp 28 rfl).2.2 45 rfl).trans f28
          have e41 : A.tmps.getD 41 undef = Value.bool false := ((hp 24 rfl).2.2 41 rfl).trans (hp 24 rfl).2.1
          have hcell : w6.cell? ⟨bt, ot + i * 4 + 2, none⟩ = some (Value.int .i64 t) := HT.out w6 hG 2 _ rfl
          clear hlow hun hnl hp
          refine wpOp_go rfl ((wanted_of (want := false) (b := false) rfl rfl e41).trans rfl) ?_
          go_simp
          first | exact ⟨_, rfl, hG, ⟨⟩, rfl⟩ | exact ⟨hG, ⟨⟩, rfl⟩ | exact ⟨hG, rfl⟩ | exact hG | exact ⟨hG, ⟨⟩⟩ | exact ⟨_, rfl, hG, ⟨⟩, trivial⟩ | exact ⟨_, rfl, ⟨⟩, rfl⟩ | exact ⟨⟨⟩, rfl⟩
        · intro L f A w6 Q hL hG hsz hlow hun hnl hp
          have e1 : A.tmps.getD 1 undef = Value.slice (some ⟨bu, ou, none⟩) m cb := hlow 1 rfl
          have e41 : A.tmps.getD 41 undef = Value.bool false := ((hp 24 rfl).2.2 41 rfl).trans (hp 24 rfl).2.1
          clear hlow hun hnl hp
          refine wpOp_go rfl ((wanted_of (want := false) (b := false) rfl rfl e41).trans rfl) ?_
          go_simp
          first | exact ⟨_, rfl, hG, ⟨⟩, rfl⟩ | exact ⟨hG, ⟨⟩, rfl⟩ | exact ⟨hG, rfl⟩ | exact hG | exact ⟨hG, ⟨⟩⟩ | exact ⟨_, rfl, hG, ⟨⟩, trivial⟩ | exact ⟨_, rfl, ⟨⟩, rfl⟩ | exact ⟨⟨⟩, rfl⟩
        · intro L f A w6 Q hL hG hsz hlow hun hnl hp
          have e5 : A.tmps.getD 5 undef = Value.int .i64 (i : Int) := hlow 5 rfl
          have e41 : A.tmps.getD 41 undef = Value.bool false := ((hp 24 rfl).2.2 41 rfl).trans (hp 24 rfl).2.1
          clear hlow hun hnl hp
          refine wpOp_go rfl ((wanted_of (want := false) (b := false) rfl rfl e41).trans rfl) ?_
          go_simp
          first | exact ⟨_, rfl, hG, ⟨⟩, rfl⟩ | exact ⟨hG, ⟨⟩, rfl⟩ | exact ⟨hG, rfl⟩ | exact hG | exact ⟨hG, ⟨⟩⟩ | exact ⟨_, rfl, hG, ⟨⟩, trivial⟩ | exact ⟨_, rfl, ⟨⟩, rfl⟩ | exact ⟨⟨⟩, rfl⟩
        · intro L f A w6 Q hL hG hsz hlow hun hnl hp
          have f30 : f 30 = Value.slice (some ⟨bu, ou, none⟩) m cb := (hp 30 rfl).2.1
          have e47 : A.tmps.getD 47 undef = Value.slice (some ⟨bu, ou, none⟩) m cb := ((hp 30 rfl).2.2 47 rfl).trans f30
          have f31 : f 31 = Value.int .i64 (i : Int) := (hp 31 rfl).2.1
          have e48 : A.tmps.getD 48 undef = Value.int .i64 (i : Int) := ((hp 31 rfl).2.2 48 rfl).trans f31
          have e41 : A.tmps.getD 41 undef = Value.bool false := ((hp 24 rfl).2.2 41 rfl).trans (hp 24 rfl).2.1
          have hlt := HLT.out
          clear hlow hun hnl hp
          refine wpOp_go rfl ((wanted_of (want := false) (b := false) rfl rfl e41).trans rfl) ?_
          go_simp
          first | exact ⟨_, rfl, hG, ⟨⟩, rfl⟩ | exact ⟨hG, ⟨⟩, rfl⟩ | exact ⟨hG, rfl⟩ | exact hG | exact ⟨hG, ⟨⟩⟩ | exact ⟨_, rfl, hG, ⟨⟩, trivial⟩ | exact ⟨_, rfl, ⟨⟩, rfl⟩ | exact ⟨⟨⟩, rfl⟩
        · intro L f A w6 Q hL hG hsz hlow hun hnl hp
          have f32 : f 32 = Value.pointer (some ⟨bu, ou + i * 4, none⟩) := (hp 32 rfl).2.1
          have e49 : A.tmps.getD 49 undef = Value.pointer (some ⟨bu, ou + i * 4, none⟩) := ((hp 32 rfl).2.2 49 rfl).trans f32
          have e41 : A.tmps.getD 41 undef = Value.bool false := ((hp 24 rfl).2.2 41 rfl).trans (hp 24 rfl).2.1
          clear hlow hun hnl hp
          refine wpOp_go rfl ((wanted_of (want := false) (b := false) rfl rfl e41).trans rfl) ?_
          go_simp
          first | exact ⟨_, rfl, hG, ⟨⟩, rfl⟩ | exact ⟨hG, ⟨⟩, rfl⟩ | exact ⟨hG, rfl⟩ | exact hG | exact ⟨hG, ⟨⟩⟩ | exact ⟨_, rfl, hG, ⟨⟩, trivial⟩ | exact ⟨_, rfl, ⟨⟩, rfl⟩ | exact ⟨⟨⟩, rfl⟩
        · intro L f A w6 Q hL hG hsz hlow hun hnl hp
          have f33 : f 33 = Value.pointer (some ⟨bu, ou + i * 4 + 2, none⟩) := (hp 33 rfl).2.1
          have e50 : A.tmps.getD 50 undef = Value.pointer (some ⟨bu, ou + i * 4 + 2, none⟩) := ((hp 33 rfl).2.2 50 rfl).trans f33
          have e41 : A.tmps.getD 41 undef = Value.bool false := ((hp 24 rfl).2.2 41 rfl).trans (hp 24 rfl).2.1
          have hcell : w6.cell? ⟨bu, ou + i * 4 + 2, none⟩ = some (Value.int .i64 t) := HU.out w6 hG 2 _ rfl
          clear hlow hun hnl hp
          refine wpOp_go rfl ((wanted_of (want := false) (b := false) rfl rfl e41).trans rfl) ?_
          go_simp
          first | exact ⟨_, rfl, hG, ⟨⟩, rfl⟩ | exact ⟨hG, ⟨⟩, rfl⟩ | exact ⟨hG, rfl⟩ | exact hG | exact ⟨hG, ⟨⟩⟩ | exact ⟨_, rfl, hG, ⟨⟩, trivial⟩ | exact ⟨_, rfl, ⟨⟩, rfl⟩ | exact ⟨⟨⟩, rfl⟩
        · intro L f A w6 Q hL hG hsz hlow hun hnl hp
          have f29 : f 29 = Value.int .i64 t := (hp 29 rfl).2.1
          have e46 : A.tmps.getD 46 undef = Value.int .i64 t := ((hp 29 rfl).2.2 46 rfl).trans f29
          have f34 : f 34 = Value.int .i64 t := (hp 34 rfl).2.1
          have e51 : A.tmps.getD 51 undef = Value.int .i64 t := ((hp 34 rfl).2.2 51 rfl).trans f34
          have e41 : A.tmps.getD 41 undef = Value.bool false := ((hp 24 rfl).2.2 41 rfl).trans (hp 24 rfl).2.1
          clear hlow hun hnl hp
          refine wpOp_go rfl ((wanted_of (want := false) (b := false) rfl rfl e41).trans rfl) ?_
          go_simp
          first | exact ⟨_, rfl, hG, ⟨⟩, rfl⟩ | exact ⟨hG, ⟨⟩, rfl⟩ | exact ⟨hG, rfl⟩ | exact hG | exact ⟨hG, ⟨⟩⟩ | exact ⟨_, rfl, hG, ⟨⟩, trivial⟩ | exact ⟨_, rfl, ⟨⟩, rfl⟩ | exact ⟨⟨⟩, rfl⟩
        · intro L f A w6 Q hL hG hsz hlow hun hnl hp
          have f24 : f 24 = Value.bool false := (hp 24 rfl).2.1
          have e41 : A.tmps.getD 41 undef = Value.bool false := ((hp 24 rfl).2.2 41 rfl).trans f24
          have f35 : f 35 = Value.bool false := (hp 35 rfl).2.1
          have e52 : A.tmps.getD 52 undef = Value.bool false := ((hp 35 rfl).2.2 52 rfl).trans f35
          clear hlow hun hnl hp
          refine wpOp_go rfl rfl ?_
          go_simp
          first | exact ⟨_, rfl, hG, ⟨⟩, rfl⟩ | exact ⟨hG, ⟨⟩, rfl⟩ | exact ⟨hG, rfl⟩ | exact hG | exact ⟨hG, ⟨⟩⟩ | exact ⟨_, rfl, hG, ⟨⟩, trivial⟩ | exact ⟨_, rfl, ⟨⟩, rfl⟩ | exact ⟨⟨⟩, rfl⟩
        · intro L f A w6 Q hL hG hsz hlow hun hnl hp
          have f36 : f 36 = Value.bool false := (hp 36 rfl).2.1
          have e53 : A.tmps.getD 53 undef = Value.bool false := ((hp 36 rfl).2.2 53 rfl).trans f36
          clear hlow hun hnl hp
          refine wpOp_go rfl rfl ?_
          go_simp
          first | exact ⟨_, rfl, hG, ⟨⟩, rfl⟩ | exact ⟨hG, ⟨⟩, rfl⟩ | exact ⟨hG, rfl⟩ | exact hG | exact ⟨hG, ⟨⟩⟩ | exact ⟨_, rfl, hG, ⟨⟩, trivial⟩ | exact ⟨_, rfl, ⟨⟩, rfl⟩ | exact ⟨⟨⟩, rfl⟩
        · intro L f A w6 Q hL hG hsz hlow hun hnl hp
          have e0 : A.tmps.getD 0 undef = Value.slice (some ⟨bt, ot, none⟩) m ca := hlow 0 rfl
          have e54 : A.tmps.getD 54 undef = Value.bool false := ((hp 37 rfl).2.2 54 rfl).trans (hp 37 rfl).2.1
          clear hlow hun hnl hp
          refine wpOp_go rfl ((wanted_of (want := false) (b := false) rfl rfl e54).trans rfl) ?_
          go_simp
          first | exact ⟨_, rfl, hG, ⟨⟩, rfl⟩ | exact ⟨hG, ⟨⟩, rfl⟩ | exact ⟨hG, rfl⟩ | exact hG | exact ⟨hG, ⟨⟩⟩ | exact ⟨_, rfl, hG, ⟨⟩, trivial⟩ | exact ⟨_, rfl, ⟨⟩, rfl⟩ | exact ⟨⟨⟩, rfl⟩
        · intro L f A w6 Q hL hG hsz hlow hun hnl hp
          have e5 : A.tmps.getD 5 undef = Value.int .i64 (i : Int) := hlow 5 rfl
          have e54 : A.tmps.getD 54 undef = Value.bool false := ((hp 37 rfl).2.2 54 rfl).trans (hp 37 rfl).2.1
          clear hlow hun hnl hp
          refine wpOp_go rfl ((wanted_of (want := false) (b := false) rfl rfl e54).trans rfl) ?_
          go_simp
          first | exact ⟨_, rfl, hG, ⟨⟩, rfl⟩ | exact ⟨hG, ⟨⟩, rfl⟩ | exact ⟨hG, rfl⟩ | exact hG | exact ⟨hG, ⟨⟩⟩ | exact ⟨_, rfl, hG, ⟨⟩, trivial⟩ | exact ⟨_, rfl, ⟨⟩, rfl⟩ | exact ⟨⟨⟩, rfl⟩
        · intro L f A w6 Q hL hG hsz hlow hun hnl hp
          have f38 : f 38 = Value.slice (some ⟨bt, ot, none⟩) m ca := (hp 38 rfl).2.1
          have e55 : A.tmps.getD 55 undef = Value.slice (some ⟨bt, ot, none⟩) m ca := ((hp 38 rfl).2.2 55 rfl).trans f38
          have f39 : f 39 = Value.int .i64 (i : Int) := (hp 39 rfl).2.1
          have e56 : A.tmps.getD 56 undef = Value.int .i64 (i : Int) := ((hp 39 rfl).2.2 56 rfl).trans f39
          have e54 : A.tmps.getD 54 undef = Value.bool false := ((hp 37 rfl).2.2 54 rfl).trans (hp 37 rfl).2.1
          have hlt := HLT.out
          clear hlow hun hnl hp
          refine wpOp_go rfl ((wanted_of (want := false) (b := false) rfl rfl e54).trans rfl) ?_
          go_simp
          first | exact ⟨_, rfl, hG, ⟨⟩, rfl⟩ | exact ⟨hG, ⟨⟩, rfl⟩ | exact ⟨hG, rfl⟩ | exact hG | exact ⟨hG, ⟨⟩⟩ | exact ⟨_, rfl, hG, ⟨⟩, trivial⟩ | exact ⟨_, rfl, ⟨⟩, rfl⟩ | exact ⟨⟨⟩, rfl⟩
        · intro L f A w6 Q hL hG hsz hlow hun hnl hp
          have f40 : f 40 = Value.pointer (some ⟨bt, ot + i * 4, none⟩) := (hp 40 rfl).2.1
          have e57 : A.tmps.getD 57 undef = Value.pointer (some ⟨bt, ot + i * 4, none⟩) := ((hp 40 rfl).2.2 57 rfl).trans f40
          have e54 : A.tmps.getD 54 undef = Value.bool false := ((hp 37 rfl).2.2 54 rfl).trans (hp 37 rfl).2.1
          clear hlow hun hnl hp
          refine wpOp_go rfl ((wanted_of (want := false) (b := false) rfl rfl e54).trans rfl) ?_
          go_simp
          first | exact ⟨_, rfl, hG, ⟨⟩, rfl⟩ | exact ⟨hG, ⟨⟩, rfl⟩ | exact ⟨hG, rfl⟩ | exact hG | exact ⟨hG, ⟨⟩⟩ | exact ⟨_, rfl, hG, ⟨⟩, trivial⟩ | exact ⟨_, rfl, ⟨⟩, rfl⟩ | exact ⟨⟨⟩, rfl⟩
        · intro L f A w6 Q hL hG hsz hlow hun hnl hp
          have f41 : f 41 = Value.pointer (some ⟨bt, ot + i * 4 + 3, none⟩) := (hp 41 rfl).2.1
          have e58 : A.tmps.getD 58 undef = Value.pointer (some ⟨bt, ot + i * 4 + 3, none⟩) := ((hp 41 rfl).2.2 58 rfl).trans f41
          have e54 : A.tmps.getD 54 undef = Value.bool false := ((hp 37 rfl).2.2 54 rfl).trans (hp 37 rfl).2.1
          have hcell : w6.cell? ⟨bt, ot + i * 4 + 3, none⟩ = some (Value.slice At (List.length b) ct) := HT.out w6 hG 3 _ rfl
          clear hlow hun hnl hp
          refine wpOp_go rfl ((wanted_of (want := false) (b := false) rfl rfl e54).trans rfl) ?_
          go_simp
          first | exact ⟨_, rfl, hG, ⟨⟩, rfl⟩ | exact ⟨hG, ⟨⟩, rfl⟩ | exact ⟨hG, rfl⟩ | exact hG | exact ⟨hG, ⟨⟩⟩ | exact ⟨_, rfl, hG, ⟨⟩, trivial⟩ | exact ⟨_, rfl, ⟨⟩, rfl⟩ | exact ⟨⟨⟩, rfl⟩
        · intro L f A w6 Q hL hG hsz hlow hun hnl hp
          have f42 : f 42 = Value.slice At (List.length b) ct := (hp 42 rfl).2.1
          have e59 : A.tmps.getD 59 undef = Value.slice At (List.length b) ct := ((hp 42 rfl).2.2 59 rfl).trans f42
          have e54 : A.tmps.getD 54 undef = Value.bool false := ((hp 37 rfl).2.2 54 rfl).trans (hp 37 rfl).2.1
          clear hlow hun hnl hp
          refine wpOp_go rfl ((wanted_of (want := false) (b := false) rfl rfl e54).trans rfl) (wp_val (convert 22 9 (A.tmps.getD 59 undef)) rfl (Value.string ⟨List.toArray b⟩) w6 ?_ ⟨_, rfl, hG, ⟨⟩, rfl⟩)
          rw [e59]
          exact run_str (P := Try.prog) w6 22 5 9 Try.underlying22 Try.underlying5 Try.underlying9 At ct b (HBT.out w6 hG)
        · intro L f A w6 Q hL hG hsz hlow hun hnl hp
          have e1 : A.tmps.getD 1 undef = Value.slice (some ⟨bu, ou, none⟩) m cb := hlow 1 rfl
          have e54 : A.tmps.getD 54 undef = Value.bool false := ((hp 37 rfl).2.2 54 rfl).trans (hp 37 rfl).2.1
          clear hlow hun hnl hp
          refine wpOp_go rfl ((wanted_of (want := false) (b := false) rfl rfl e54).trans rfl) ?_
          go_simp
          first | exact ⟨_, rfl, hG, ⟨⟩, rfl⟩ | exact ⟨hG, ⟨⟩, rfl⟩ | exact ⟨hG, rfl⟩ | exact hG | exact ⟨hG, ⟨⟩⟩ | exact ⟨_, rfl, hG, ⟨⟩, trivial⟩ | exact ⟨_, rfl, ⟨⟩, rfl⟩ | exact ⟨⟨⟩, rfl⟩
        · intro L f A w6 Q hL hG hsz hlow hun hnl hp
          have e5 : A.tmps.getD 5 undef = Value.int .i64 (i : Int) := hlow 5 rfl
          have e54 : A.tmps.getD 54 undef = Value.bool false := ((hp 37 rfl).2.2 54 rfl).trans (hp 37 rfl).2.1
          clear hlow hun hnl hp
          refine wpOp_go rfl ((wanted_of (want := false) (b := false) rfl rfl e54).trans rfl) ?_
          go_simp
          first | exact ⟨_, rfl, hG, ⟨⟩, rfl⟩ | exact ⟨hG, ⟨⟩, rfl⟩ | exact ⟨hG, rfl⟩ | exact hG | exact ⟨hG, ⟨⟩⟩ | exact ⟨_, rfl, hG, ⟨⟩, trivial⟩ | exact ⟨_, rfl, ⟨⟩, rfl⟩ | exact ⟨⟨⟩, rfl⟩
        · intro L f A w6 Q hL hG hsz hlow hun hnl hp
          have f44 : f 44 = Value.slice (some ⟨bu, ou, none⟩) m cb := (hp 44 rfl).2.1
          have e61 : A.tmps.getD 61 undef = Value.slice (some ⟨bu, ou, none⟩) m cb := ((hp 44 rfl).2.2 61 rfl).trans f44
          have f45 : f 45 = Value.int .i64 (i : Int) := (hp 45 rfl).2.1
          have e62 : A.tmps.getD 62 undef = Value.int .i64 (i : Int) := ((hp 45 rfl).2.2 62 rfl).trans f45
          have e54 : A.tmps.getD 54 undef = Value.bool false := ((hp 37 rfl).2.2 54 rfl).trans (hp 37 rfl).2.1
          have hlt := HLT.out
          clear hlow hun hnl hp
          refine wpOp_go rfl ((wanted_of (want := false) (b := false) rfl rfl e54).trans rfl) ?_
          go_simp
          first | exact ⟨_, rfl, hG, ⟨⟩, rfl⟩ | exact ⟨hG, ⟨⟩, rfl⟩ | exact ⟨hG, rfl⟩ | exact hG | exact ⟨hG, ⟨⟩⟩ | exact ⟨_, rfl, hG, ⟨⟩, trivial⟩ | exact ⟨_, rfl, ⟨⟩, rfl⟩ | exact ⟨⟨⟩, rfl⟩
        · intro L f A w6 Q hL hG hsz hlow hun hnl hp
          have f46 : f 46 = Value.pointer (some ⟨bu, ou + i * 4, none⟩) := (hp 46 rfl).2.1
          have e63 : A.tmps.getD 63 undef = Value.pointer (some ⟨bu, ou + i * 4, none⟩) := ((hp 46 rfl).2.2 63 rfl).trans f46
          have e54 : A.tmps.getD 54 undef = Value.bool false := ((hp 37 rfl).2.2 54 rfl).trans (hp 37 rfl).2.1
          clear hlow hun hnl hp
          refine wpOp_go rfl ((wanted_of (want := false) (b := false) rfl rfl e54).trans rfl) ?_
          go_simp
          first | exact ⟨_, rfl, hG, ⟨⟩, rfl⟩ | exact ⟨hG, ⟨⟩, rfl⟩ | exact ⟨hG, rfl⟩ | exact hG | exact ⟨hG, ⟨⟩⟩ | exact ⟨_, rfl, hG, ⟨⟩, trivial⟩ | exact ⟨_, rfl, ⟨⟩, rfl⟩ | exact ⟨⟨⟩, rfl⟩
        · intro L f A w6 Q hL hG hsz hlow hun hnl hp
          have f47 : f 47 = Value.pointer (some ⟨bu, ou + i * 4 + 3, none⟩) := (hp 47 rfl).2.1
          have e64 : A.tmps.getD 64 undef = Value.pointer (some ⟨bu, ou + i * 4 + 3, none⟩) := ((hp 47 rfl).2.2 64 rfl).trans f47
          have e54 : A.tmps.getD 54 undef = Value.bool false := ((hp 37 rfl).2.2 54 rfl).trans (hp 37 rfl).2.1
          have hcell : w6.cell? ⟨bu, ou + i * 4 + 3, none⟩ = some (Value.slice Au (List.length b) cu) := HU.out w6 hG 3 _ rfl
          clear hlow hun hnl hp
          refine wpOp_go rfl ((wanted_of (want := false) (b := false) rfl rfl e54).trans rfl) ?_
          go_simp
          first | exact ⟨_, rfl, hG, ⟨⟩, rfl⟩ | exact ⟨hG, ⟨⟩, rfl⟩ | exact ⟨hG, rfl⟩ | exact hG | exact ⟨hG, ⟨⟩⟩ | exact ⟨_, rfl, hG, ⟨⟩, trivial⟩ | exact ⟨_, rfl, ⟨⟩, rfl⟩ | exact ⟨⟨⟩, rfl⟩
        · intro L f A w6 Q hL hG hsz hlow hun hnl hp
          have f48 : f 48 = Value.slice Au (List.length b) cu := (hp 48 rfl).2.1
          have e65 : A.tmps.getD 65 undef = Value.slice Au (List.length b) cu := ((hp 48 rfl).2.2 65 rfl).trans f48
          have e54 : A.tmps.getD 54 undef = Value.bool false := ((hp 37 rfl).2.2 54 rfl).trans (hp 37 rfl).2.1
          clear hlow hun hnl hp
          refine wpOp_go rfl ((wanted_of (want := false) (b := false) rfl rfl e54).trans rfl) (wp_val (convert 22 9 (A.tmps.getD 65 undef)) rfl (Value.string ⟨List.toArray b⟩) w6 ?_ ⟨_, rfl, hG, ⟨⟩, rfl⟩)
          rw [e65]
          exact run_str (P := Try.prog) w6 22 5 9 Try.underlying22 Try.underlying5 Try.underlying9 Au cu b (HBU.out w6 hG)
        · intro L f A w6 Q hL hG hsz hlow hun hnl hp
          have f43 : f 43 = Value.string ⟨List.toArray b⟩ := (hp 43 rfl).2.1
          have e60 : A.tmps.getD 60 undef = Value.string ⟨List.toArray b⟩ := ((hp 43 rfl).2.2 60 rfl).trans f43
          have f49 : f 49 = Value.string ⟨List.toArray b⟩ := (hp 49 rfl).2.1
          have e66 : A.tmps.getD 66 undef = Value.string ⟨List.toArray b⟩ := ((hp 49 rfl).2.2 66 rfl).trans f49
          have e54 : A.tmps.getD 54 undef = Value.bool false := ((hp 37 rfl).2.2 54 rfl).trans (hp 37 rfl).2.1
          clear hlow hun hnl hp
          refine wpOp_go rfl ((wanted_of (want := false) (b := false) rfl rfl e54).trans rfl) ?_
          go_simp
          first | exact ⟨_, rfl, hG, ⟨⟩, rfl⟩ | exact ⟨hG, ⟨⟩, rfl⟩ | exact ⟨hG, rfl⟩ | exact hG | exact ⟨hG, ⟨⟩⟩ | exact ⟨_, rfl, hG, ⟨⟩, trivial⟩ | exact ⟨_, rfl, ⟨⟩, rfl⟩ | exact ⟨⟨⟩, rfl⟩
        · intro L f A w6 Q hL hG hsz hlow hun hnl hp
          have f37 : f 37 = Value.bool false := (hp 37 rfl).2.1
          have e54 : A.tmps.getD 54 undef = Value.bool false := ((hp 37 rfl).2.2 54 rfl).trans f37
          have f50 : f 50 = Value.bool false := (hp 50 rfl).2.1
          have e67 : A.tmps.getD 67 undef = Value.bool false := ((hp 50 rfl).2.2 67 rfl).trans f50
          clear hlow hun hnl hp
          refine wpOp_go rfl rfl ?_
          go_simp
          first | exact ⟨_, rfl, hG, ⟨⟩, rfl⟩ | exact ⟨hG, ⟨⟩, rfl⟩ | exact ⟨hG, rfl⟩ | exact hG | exact ⟨hG, ⟨⟩⟩ | exact ⟨_, rfl, hG, ⟨⟩, trivial⟩ | exact ⟨_, rfl, ⟨⟩, rfl⟩ | exact ⟨⟨⟩, rfl⟩
      case fin =>
        intro L f w9 hLL hG hV
        have HG := Hd.mk (below_then HB0.out HB0.out.size hG)
        clear hLL hG
        simp only [fillD, Act.put, List.setIfInBounds_toArray, List.set_cons_zero, List.set_cons_succ]
        rw [show f (0 + 1 + 1 + 1 + 1 + 1 + 1 + 1 + 1 + 1 + 1 + 1 + 1 + 1 + 1 + 1 + 1 + 1 + 1 + 1 + 1 + 1 + 1 + 1 + 1 + 1 + 1 + 1 + 1 + 1 + 1 + 1 + 1 + 1 + 1 + 1 + 1 + 1 + 1 + 1 + 1 + 1 + 1 + 1 + 1 + 1 + 1 + 1 + 1 + 1 + 1 + 1) = Value.bool false from hV 51 (by simp)]
        clear hV
        go_wp2_with fail
        go_roundw
        case rel => exact ⟨i + 1, by go_num, by have := HLT.out; omega, HG⟩
        case measure => have := HLT.out; simp [intOf]; omega
    · obtain rfl : i = m := by omega
      go_wp2_with fail
      go_ret
      exact ⟨rfl, HB0.out⟩
end Go.Proofs.Ytffhncpgknkkaaa
