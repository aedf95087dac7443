/- W06Told: what a read tells. -/
import Derived.Test.YtffhncpgknkkaaaW06Atom
import Derived.Test.YtffhncpgknkkaaaW06Small
namespace Go.Proofs.Ytffhncpgknkkaaa
open Go.RowKit Go.Sac
set_option linter.unusedVariables false
set_option linter.unusedSimpArgs false
section
variable {w : World} {g : Nat} {K : Nat → Nat} {c : Wc} {s : Wd}
def toldB (s : Wd) (b : List UInt8) : List UInt8 := (s.lies s.reads).getD b
def toldP (s : Wd) : Wd := { s with reads := s.reads + 1 }
theorem look_lie (h : WdAt w g K c s) (n : Int) : (Instr.lookup 65 (.map (some c.rl)) (.int .i64 n) true).run Try.prog w = .ok (.tuple #[((c.L n).map (lieV s n)).getD (.slice none 0 0), .bool (c.L n).isSome]) w := by
  have := run_lookup2_k nkey_ok lmap_und h.ml n (zero_sl w)
  rw [show Value.int .i64 n = i64v n from rfl, this]
  cases c.L n <;> rfl
/-- the region's worlds: as it stood, with the count written -/
structure G7 (wa wb : World) (L : Nat → Bool) (w : World) : Prop where
  b : L 7 = true → w = wb
  a : L 7 = false → w = wa
theorem G7.past {wa wb w : World} {L : Nat → Bool} (h : G7 wa wb L w) (i : Nat) (h7 : 7 ≠ i) : G7 wa wb (fun j => j == i || L j) w := by
  have e7 : (7 == i || L 7) = L 7 := by simp [h7]
  exact ⟨fun a => h.b (e7 ▸ a), fun a => h.a (e7 ▸ a)⟩
/-- what the region yields -/
def VT (g rl : Nat) (n : Int) (lv : Value) (r : Bool) (i : Nat) (w : World) (v : Value) : Prop :=
  match i with
  | 0 => v = Value.pointer (some ⟨g, 0, none⟩)
  | 1 => v = Value.pointer (some ⟨g, 0, none⟩)
  | 2 => v = Value.pointer (some ⟨g, 5, none⟩)
  | 3 => v = Value.map (some rl)
  | 4 => v = Value.pointer (some ⟨g, 0, none⟩)
  | 5 => v = Value.pointer (some ⟨g, 0, none⟩)
  | 6 => v = Value.pointer (some ⟨g, 6, none⟩)
  | 7 => v = Value.int .i64 (n + 1)
  | 8 => v = Value.int .i64 n
  | 9 => v = Value.tuple #[lv, .bool r]
  | 10 => v = Value.tuple #[lv, .bool r]
  | 11 => v = lv
  | 12 => v = Value.bool r
  | 13 => v = lv
  | 14 => v = Value.bool r
  | _ => True
set_option maxRecDepth 100000 in
set_option maxHeartbeats 4000000 in
theorem told_calls (h : WdAt w g K c s) (AB : Option Addr) (n cap : Nat) (b : List UInt8) (hr : Rc w AB (bs b)) (hA : ∀ a, AB = some a → a.block ≠ g) (e : n = b.length) (hn : b.length ≤ 1099511627776) (hl : ∀ l, s.lies s.reads = some l → l.length ≤ 1099511627776) (hrd : s.reads ≤ 1000000) :
    Calls Try.prog 38 #[.pointer (some ⟨g, 0, none⟩), .slice AB n cap] w fun e w' => ∃ v, e = .returned v ∧ w'.ownsRow w.heap.size 5 1 v (toldB s b).length (bs (toldB s b)) ∧ WdAt w' g K c (toldP s) ∧ Stp K K w w' := by
  have HR := Hd.mk hr
  have HA := Hd.mk hA
  have HN := Hd.mk e
  have HNB := Hd.mk hn
  have HLL := Hd.mk hl
  have hd : Below w.heap.size w w.drew := (Below.refl _ w).drew
  have hW := h.below hd
  have HRD : Hd (0 ≤ s.reads ∧ s.reads ≤ 1000000) := ⟨h.num.2.2.1, hrd⟩
  have HWR : Hd (IntKind.i64.wrap (s.reads + 1) = s.reads + 1) := ⟨by rw [IntKind.wrap_i64]; have := HRD.out; omega⟩
  have HC6 := Hd.mk (hW.obj.cell (i := 6) rfl)
  have HF6 := Hd.mk (hW.obj.frz 6)
  have HC5 := Hd.mk (hW.obj.cell (i := 5) rfl)
  have hn7 := hW.num
  have h7 := hW.cell 6 (.int .i64 (s.reads + 1)) (toldP s) ⟨rfl, rfl, rfl, rfl, rfl⟩ rfl ⟨hn7.1, hn7.2.1, by show 0 ≤ s.reads + 1; omega, hn7.2.2.2⟩
  have hs7 := (Stp.of_below (K := K) hd).trans (Stp.cell hW 6 (.int .i64 (s.reads + 1)))
  have hz7 : (w.drew.setCell ⟨g, 6, none⟩ (.int .i64 (s.reads + 1))).heap.size = w.heap.size := by simp
  have hr7 : Rc (w.drew.setCell ⟨g, 6, none⟩ (.int .i64 (s.reads + 1))) AB (bs b) := hr.keep fun q off e hq => (Below.heap_setCell w.drew ⟨g, 6, none⟩ _ q (hA _ e)).trans (hd.block q hq)
  have HOB : Hd (∀ L W, G7 w.drew (w.drew.setCell ⟨g, 6, none⟩ (.int .i64 (s.reads + 1))) L W → W.cell? ⟨g, 5, none⟩ = some (.map (some c.rl))) := ⟨fun L W hWW => by
    cases h5 : L 7 with
    | true => rw [hWW.b h5]; exact h7.obj.cell (i := 5) rfl
    | false => rw [hWW.a h5]; exact HC5.out⟩
  obtain ⟨w7, hw7⟩ : ∃ w7, w.drew.setCell ⟨g, 6, none⟩ (.int .i64 (s.reads + 1)) = w7 := ⟨_, rfl⟩
  rw [hw7] at h7 hs7 hz7 hr7 HOB
  have HW7 := Hd.mk h7
  have HWE := Hd.mk hw7
  have HST := Hd.mk hs7
  have HSZ := Hd.mk hz7
  have HR7 := Hd.mk hr7
  have hlk := look_lie h7 s.reads
  have HQ := Hd.mk h
  cases hL : c.L s.reads with
  | some x =>
    obtain ⟨l, hll, hrow⟩ := h.hl _ x hL
    rw [hL] at hlk
    have hlv : lieV (toldP s) s.reads x = .slice x.1 l.length x.2 := by unfold lieV; rw [show (toldP s).lies = s.lies from rfl, hll]; rfl
    rw [Option.map_some, Option.getD_some, hlv] at hlk
    have HLK : Hd ((Instr.lookup 65 (.map (some c.rl)) (.int .i64 s.reads) true).run Try.prog w7 = .ok (.tuple #[.slice x.1 l.length x.2, .bool true]) w7) := ⟨hlk⟩
    have HRL : Hd (Rc w7 x.1 (bs l)) := ⟨by
      obtain ⟨l2, h1, h2⟩ := h7.hl _ x hL
      have : l2 = l := by rw [show (toldP s).lies = s.lies from rfl, hll] at h1; exact (Option.some.inj h1).symm
      rw [← this]; exact h2.rc⟩
    have HBB : Hd (toldB s b = l) := ⟨by unfold toldB; rw [hll]; rfl⟩
    have HLB : Hd (l.length ≤ 1099511627776) := ⟨hl l hll⟩
    clear h hr hA e hn hl hrd hd hW hn7 h7 hs7 hz7 hr7 hw7 hlk hL hll hrow hlv HLL
    go_enter Try.func38, Try.ntmps38
    go_wp2_with (fail)
    refine region_stp (VT g c.rl s.reads (.slice x.1 l.length x.2) true) (fun L W _ => G7 w.drew w7 L W) NoR (by kernel_rfl) (by kernel_rfl) (by kernel_rfl) (by kernel_rfl) (fun _ => ⟨nofun, fun _ => rfl⟩) ?stab ?steps ?fin
    case stab => intro i j w1 w2 v o ho hij hwt hR h; exact h
    case steps =>
      refine StepsG.cons ?_ (StepsG.cons ?_ (StepsG.cons ?_ (StepsG.cons ?_ (StepsG.cons ?_ (StepsG.cons ?_ (StepsG.cons ?_ (StepsG.cons ?_ (StepsG.cons ?_ (StepsG.cons ?_ (StepsG.cons ?_ (StepsG.cons ?_ (StepsG.cons ?_ (StepsG.cons ?_ (StepsG.cons ?_ StepsG.nil))))))))))))))
      · intro L f A w6 Q hL hG hsz hlow hun hnl hp
        have e0 : A.tmps.getD 0 undef = Value.pointer (some ⟨g, 0, none⟩) := hlow 0 rfl
        clear hlow hun hnl hp
        refine wpOp_go rfl rfl ?_
        go_simp
        first | exact ⟨_, rfl, hG.past 0 (by decide), ⟨⟩, rfl⟩ | exact ⟨hG.past 0 (by decide), ⟨⟩, rfl⟩ | exact ⟨hG.past 0 (by decide), rfl⟩ | exact hG.past 0 (by decide) | exact ⟨hG.past 0 (by decide), ⟨⟩⟩ | exact ⟨_, rfl, hG.past 0 (by decide), ⟨⟩, trivial⟩ | exact ⟨_, rfl, ⟨⟩, rfl⟩ | exact ⟨⟨⟩, rfl⟩
      · intro L f A w6 Q hL hG hsz hlow hun hnl hp
        have f0 : f 0 = Value.pointer (some ⟨g, 0, none⟩) := (hp 0 rfl).2.1
        have e8 : A.tmps.getD 8 undef = Value.pointer (some ⟨g, 0, none⟩) := ((hp 0 rfl).2.2 8 rfl).trans f0
        clear hlow hun hnl hp
        refine wpOp_go rfl rfl ?_
        go_simp
        first | exact ⟨_, rfl, hG.past 1 (by decide), ⟨⟩, rfl⟩ | exact ⟨hG.past 1 (by decide), ⟨⟩, rfl⟩ | exact ⟨hG.past 1 (by decide), rfl⟩ | exact hG.past 1 (by decide) | exact ⟨hG.past 1 (by decide), ⟨⟩⟩ | exact ⟨_, rfl, hG.past 1 (by decide), ⟨⟩, trivial⟩ | exact ⟨_, rfl, ⟨⟩, rfl⟩ | exact ⟨⟨⟩, rfl⟩
      · intro L f A w6 Q hL hG hsz hlow hun hnl hp
        have f1 : f 1 = Value.pointer (some ⟨g, 0, none⟩) := (hp 1 rfl).2.1
        have e9 : A.tmps.getD 9 undef = Value.pointer (some ⟨g, 0, none⟩) := ((hp 1 rfl).2.2 9 rfl).trans f1
        clear hlow hun hnl hp
        refine wpOp_go rfl rfl ?_
        go_simp
        first | exact ⟨_, rfl, hG.past 2 (by decide), ⟨⟩, rfl⟩ | exact ⟨hG.past 2 (by decide), ⟨⟩, rfl⟩ | exact ⟨hG.past 2 (by decide), rfl⟩ | exact hG.past 2 (by decide) | exact ⟨hG.past 2 (by decide), ⟨⟩⟩ | exact ⟨_, rfl, hG.past 2 (by decide), ⟨⟩, trivial⟩ | exact ⟨_, rfl, ⟨⟩, rfl⟩ | exact ⟨⟨⟩, rfl⟩
      · intro L f A w6 Q hL hG hsz hlow hun hnl hp
        have f2 : f 2 = Value.pointer (some ⟨g, 5, none⟩) := (hp 2 rfl).2.1
        have e10 : A.tmps.getD 10 undef = Value.pointer (some ⟨g, 5, none⟩) := ((hp 2 rfl).2.2 10 rfl).trans f2
        have hcc : w6.cell? ⟨g, 5, none⟩ = some (.map (some c.rl)) := HOB.out L w6 hG
        clear hlow hun hnl hp
        refine wpOp_go rfl rfl ?_
        go_simp
        first | exact ⟨_, rfl, hG.past 3 (by decide), ⟨⟩, rfl⟩ | exact ⟨hG.past 3 (by decide), ⟨⟩, rfl⟩ | exact ⟨hG.past 3 (by decide), rfl⟩ | exact hG.past 3 (by decide) | exact ⟨hG.past 3 (by decide), ⟨⟩⟩ | exact ⟨_, rfl, hG.past 3 (by decide), ⟨⟩, trivial⟩ | exact ⟨_, rfl, ⟨⟩, rfl⟩ | exact ⟨⟨⟩, rfl⟩
      · intro L f A w6 Q hL hG hsz hlow hun hnl hp
        have e0 : A.tmps.getD 0 undef = Value.pointer (some ⟨g, 0, none⟩) := hlow 0 rfl
        clear hlow hun hnl hp
        refine wpOp_go rfl rfl ?_
        go_simp
        first | exact ⟨_, rfl, hG.past 4 (by decide), ⟨⟩, rfl⟩ | exact ⟨hG.past 4 (by decide), ⟨⟩, rfl⟩ | exact ⟨hG.past 4 (by decide), rfl⟩ | exact hG.past 4 (by decide) | exact ⟨hG.past 4 (by decide), ⟨⟩⟩ | exact ⟨_, rfl, hG.past 4 (by decide), ⟨⟩, trivial⟩ | exact ⟨_, rfl, ⟨⟩, rfl⟩ | exact ⟨⟨⟩, rfl⟩
      · intro L f A w6 Q hL hG hsz hlow hun hnl hp
        have f4 : f 4 = Value.pointer (some ⟨g, 0, none⟩) := (hp 4 rfl).2.1
        have e12 : A.tmps.getD 12 undef = Value.pointer (some ⟨g, 0, none⟩) := ((hp 4 rfl).2.2 12 rfl).trans f4
        clear hlow hun hnl hp
        refine wpOp_go rfl rfl ?_
        go_simp
        first | exact ⟨_, rfl, hG.past 5 (by decide), ⟨⟩, rfl⟩ | exact ⟨hG.past 5 (by decide), ⟨⟩, rfl⟩ | exact ⟨hG.past 5 (by decide), rfl⟩ | exact hG.past 5 (by decide) | exact ⟨hG.past 5 (by decide), ⟨⟩⟩ | exact ⟨_, rfl, hG.past 5 (by decide), ⟨⟩, trivial⟩ | exact ⟨_, rfl, ⟨⟩, rfl⟩ | exact ⟨⟨⟩, rfl⟩
      · intro L f A w6 Q hL hG hsz hlow hun hnl hp
        have f5 : f 5 = Value.pointer (some ⟨g, 0, none⟩) := (hp 5 rfl).2.1
        have e13 : A.tmps.getD 13 undef = Value.pointer (some ⟨g, 0, none⟩) := ((hp 5 rfl).2.2 13 rfl).trans f5
        clear hlow hun hnl hp
        refine wpOp_go rfl rfl ?_
        go_simp
        first | exact ⟨_, rfl, hG.past 6 (by decide), ⟨⟩, rfl⟩ | exact ⟨hG.past 6 (by decide), ⟨⟩, rfl⟩ | exact ⟨hG.past 6 (by decide), rfl⟩ | exact hG.past 6 (by decide) | exact ⟨hG.past 6 (by decide), ⟨⟩⟩ | exact ⟨_, rfl, hG.past 6 (by decide), ⟨⟩, trivial⟩ | exact ⟨_, rfl, ⟨⟩, rfl⟩ | exact ⟨⟨⟩, rfl⟩
      · intro L f A w6 Q hL hG hsz hlow hun hnl hp
        have f6 : f 6 = Value.pointer (some ⟨g, 6, none⟩) := (hp 6 rfl).2.1
        have e14 : A.tmps.getD 14 undef = Value.pointer (some ⟨g, 6, none⟩) := ((hp 6 rfl).2.2 14 rfl).trans f6
        obtain rfl := hG.a hL
        clear hlow hun hnl hp
        refine wpOp_go rfl rfl ?_
        go_simp
        refine (add_calls w.drew g 6 s.reads 1 HC6.out HF6.out HWR.out).mono ?_
        rintro e w8 ⟨rfl, hw⟩
        exact ⟨_, rfl, ⟨fun _ => hw.trans HWE.out, fun h => by simp at h⟩, ⟨⟩, rfl⟩
      · intro L f A w6 Q hL hG hsz hlow hun hnl hp
        have f7 : f 7 = Value.int .i64 (s.reads + 1) := (hp 7 rfl).2.1
        have e15 : A.tmps.getD 15 undef = Value.int .i64 (s.reads + 1) := ((hp 7 rfl).2.2 15 rfl).trans f7
        have hwx : IntKind.i64.wrap (s.reads + 1 - 1) = s.reads := by rw [IntKind.wrap_i64]; have := HRD.out; omega
        have hwy : IntKind.i64.wrap s.reads = s.reads := by rw [IntKind.wrap_i64]; have := HRD.out; omega
        clear hlow hun hnl hp
        refine wpOp_go rfl rfl ?_
        go_simp
        exact ⟨_, rfl, hG.past 8 (by decide), ⟨⟩, rfl⟩
      · intro L f A w6 Q hL hG hsz hlow hun hnl hp
        have f3 : f 3 = Value.map (some c.rl) := (hp 3 rfl).2.1
        have e11 : A.tmps.getD 11 undef = Value.map (some c.rl) := ((hp 3 rfl).2.2 11 rfl).trans f3
        have f8 : f 8 = Value.int .i64 s.reads := (hp 8 rfl).2.1
        have e16 : A.tmps.getD 16 undef = Value.int .i64 s.reads := ((hp 8 rfl).2.2 16 rfl).trans f8
        have l7 : L 7 = true := by
          cases h : L 7 with
          | true => rfl
          | false => have := hnl 8 7 h rfl; rw [(hp 8 rfl).1] at this; cases this
        obtain rfl := hG.b l7
        clear hlow hun hnl hp
        refine wpOp_go rfl rfl (wp_lkp 65 (.tmp 11) (.tmp 16) true rfl (.tuple #[(.slice x.1 l.length x.2), .bool true]) ?_ ⟨_, rfl, hG.past 9 (by decide), ⟨⟩, rfl⟩)
        show (Instr.lookup _ (A.tmps.getD 11 undef) (A.tmps.getD 16 undef) true).run _ _ = _
        rw [e11, e16]
        exact HLK.out
      · intro L f A w6 Q hL hG hsz hlow hun hnl hp
        have f9 : f 9 = Value.tuple #[(.slice x.1 l.length x.2), .bool true] := (hp 9 rfl).2.1
        have e17 : A.tmps.getD 17 undef = Value.tuple #[(.slice x.1 l.length x.2), .bool true] := ((hp 9 rfl).2.2 17 rfl).trans f9
        clear hlow hun hnl hp
        refine wpOp_go rfl rfl ?_
        go_simp
        first | exact ⟨_, rfl, hG.past 10 (by decide), ⟨⟩, rfl⟩ | exact ⟨hG.past 10 (by decide), ⟨⟩, rfl⟩ | exact ⟨hG.past 10 (by decide), rfl⟩ | exact hG.past 10 (by decide) | exact ⟨hG.past 10 (by decide), ⟨⟩⟩ | exact ⟨_, rfl, hG.past 10 (by decide), ⟨⟩, trivial⟩ | exact ⟨_, rfl, ⟨⟩, rfl⟩ | exact ⟨⟨⟩, rfl⟩
      · intro L f A w6 Q hL hG hsz hlow hun hnl hp
        have f10 : f 10 = Value.tuple #[(.slice x.1 l.length x.2), .bool true] := (hp 10 rfl).2.1
        have e7 : A.tmps.getD 7 undef = Value.tuple #[(.slice x.1 l.length x.2), .bool true] := ((hp 10 rfl).2.2 7 rfl).trans f10
        clear hlow hun hnl hp
        refine wpOp_go rfl rfl ?_
        go_simp
        first | exact ⟨_, rfl, hG.past 11 (by decide), ⟨⟩, rfl⟩ | exact ⟨hG.past 11 (by decide), ⟨⟩, rfl⟩ | exact ⟨hG.past 11 (by decide), rfl⟩ | exact hG.past 11 (by decide) | exact ⟨hG.past 11 (by decide), ⟨⟩⟩ | exact ⟨_, rfl, hG.past 11 (by decide), ⟨⟩, trivial⟩ | exact ⟨_, rfl, ⟨⟩, rfl⟩ | exact ⟨⟨⟩, rfl⟩
      · intro L f A w6 Q hL hG hsz hlow hun hnl hp
        have f10 : f 10 = Value.tuple #[(.slice x.1 l.length x.2), .bool true] := (hp 10 rfl).2.1
        have e7 : A.tmps.getD 7 undef = Value.tuple #[(.slice x.1 l.length x.2), .bool true] := ((hp 10 rfl).2.2 7 rfl).trans f10
        clear hlow hun hnl hp
        refine wpOp_go rfl rfl ?_
        go_simp
        first | exact ⟨_, rfl, hG.past 12 (by decide), ⟨⟩, rfl⟩ | exact ⟨hG.past 12 (by decide), ⟨⟩, rfl⟩ | exact ⟨hG.past 12 (by decide), rfl⟩ | exact hG.past 12 (by decide) | exact ⟨hG.past 12 (by decide), ⟨⟩⟩ | exact ⟨_, rfl, hG.past 12 (by decide), ⟨⟩, trivial⟩ | exact ⟨_, rfl, ⟨⟩, rfl⟩ | exact ⟨⟨⟩, rfl⟩
      · intro L f A w6 Q hL hG hsz hlow hun hnl hp
        have f11 : f 11 = (.slice x.1 l.length x.2) := (hp 11 rfl).2.1
        have e18 : A.tmps.getD 18 undef = (.slice x.1 l.length x.2) := ((hp 11 rfl).2.2 18 rfl).trans f11
        clear hlow hun hnl hp
        refine wpOp_go rfl rfl ?_
        go_simp
        first | exact ⟨_, rfl, hG.past 13 (by decide), ⟨⟩, rfl⟩ | exact ⟨hG.past 13 (by decide), ⟨⟩, rfl⟩ | exact ⟨hG.past 13 (by decide), rfl⟩ | exact hG.past 13 (by decide) | exact ⟨hG.past 13 (by decide), ⟨⟩⟩ | exact ⟨_, rfl, hG.past 13 (by decide), ⟨⟩, trivial⟩ | exact ⟨_, rfl, ⟨⟩, rfl⟩ | exact ⟨⟨⟩, rfl⟩
      · intro L f A w6 Q hL hG hsz hlow hun hnl hp
        have f12 : f 12 = Value.bool true := (hp 12 rfl).2.1
        have e19 : A.tmps.getD 19 undef = Value.bool true := ((hp 12 rfl).2.2 19 rfl).trans f12
        clear hlow hun hnl hp
        refine wpOp_go rfl rfl ?_
        go_simp
        first | exact ⟨_, rfl, hG.past 14 (by decide), ⟨⟩, rfl⟩ | exact ⟨hG.past 14 (by decide), ⟨⟩, rfl⟩ | exact ⟨hG.past 14 (by decide), rfl⟩ | exact hG.past 14 (by decide) | exact ⟨hG.past 14 (by decide), ⟨⟩⟩ | exact ⟨_, rfl, hG.past 14 (by decide), ⟨⟩, trivial⟩ | exact ⟨_, rfl, ⟨⟩, rfl⟩ | exact ⟨⟨⟩, rfl⟩
    case fin =>
      intro L f w9 hLL hG hV
      obtain rfl := hG.b (hLL 7 (by simp))
      have h11 : f 13 = _ := hV 13 (by simp)
      have h12 : f 14 = _ := hV 14 (by simp)
      clear hG hV hLL HLK HOB
      simp only [fillD, Act.put, List.setIfInBounds_toArray, List.set_cons_zero, List.set_cons_succ]
      rw [h11, h12]
      clear h11 h12
      go_wp2_with (at_builtin; refine app_rc w9.heap.size 22 5 (.int .u8 0) 1 1 (.const (.slice none 0 0)) (.tmp 22) rfl rfl Try.underlying22 info_u8 rfl (by decide) (by decide) (.slice none 0 0) 0 [] (bs l) x.1 l.length x.2 rfl rfl (World.ownsRow_nil _ _ _ _) HRL.out (by rw [bs_len]; omega) bs_one (Nat.le_refl _) (by have := HLB.out; omega) l.length (bs l) (by omega) (by simp) ?_; intro v1 w1 ho hg hat; obtain ⟨A1, c1, rfl, _, _, _⟩ := own_rc ho; have HO := Hd.mk ho; have HB1 := Hd.mk (below_nil hg); clear ho hg hat)
      go_ret
      have hz : w9.heap.size = w.heap.size := HSZ.out
      have hst := HST.out
      rw [HBB.out]
      have ho := HO.out
      rw [hz] at ho
      exact ⟨_, rfl, ho, HW7.out.below HB1.out, hst.trans (Stp.of_below HB1.out)⟩
  | none =>
    have hno := h.hn _ hL
    rw [hL] at hlk
    have HLK : Hd ((Instr.lookup 65 (.map (some c.rl)) (.int .i64 s.reads) true).run Try.prog w7 = .ok (.tuple #[.slice none 0 0, .bool false]) w7) := ⟨hlk⟩
    have HBB : Hd (toldB s b = b) := ⟨by unfold toldB; rw [hno]; rfl⟩
    clear h hr hA e hn hl hrd hd hW hn7 h7 hs7 hz7 hr7 hw7 hlk hL hno HLL
    go_enter Try.func38, Try.ntmps38
    go_wp2_with (fail)
    refine region_stp (VT g c.rl s.reads (.slice none 0 0) false) (fun L W _ => G7 w.drew w7 L W) NoR (by kernel_rfl) (by kernel_rfl) (by kernel_rfl) (by kernel_rfl) (fun _ => ⟨nofun, fun _ => rfl⟩) ?stab ?steps ?fin
    case stab => intro i j w1 w2 v o ho hij hwt hR h; exact h
    case steps =>
      refine StepsG.cons ?_ (StepsG.cons ?_ (StepsG.cons ?_ (StepsG.cons ?_ (StepsG.cons ?_ (StepsG.cons ?_ (StepsG.cons ?_ (StepsG.cons ?_ (StepsG.cons ?_ (StepsG.cons ?_ (StepsG.cons ?_ (StepsG.cons ?_ (StepsG.cons ?_ (StepsG.cons ?_ (StepsG.cons ?_ StepsG.nil))))))))))))))
      · intro L f A w6 Q hL hG hsz hlow hun hnl hp
        have e0 : A.tmps.getD 0 undef = Value.pointer (some ⟨g, 0, none⟩) := hlow 0 rfl
        clear hlow hun hnl hp
        refine wpOp_go rfl rfl ?_
        go_simp
        first | exact ⟨_, rfl, hG.past 0 (by decide), ⟨⟩, rfl⟩ | exact ⟨hG.past 0 (by decide), ⟨⟩, rfl⟩ | exact ⟨hG.past 0 (by decide), rfl⟩ | exact hG.past 0 (by decide) | exact ⟨hG.past 0 (by decide), ⟨⟩⟩ | exact ⟨_, rfl, hG.past 0 (by decide), ⟨⟩, trivial⟩ | exact ⟨_, rfl, ⟨⟩, rfl⟩ | exact ⟨⟨⟩, rfl⟩
      · intro L f A w6 Q hL hG hsz hlow hun hnl hp
        have f0 : f 0 = Value.pointer (some ⟨g, 0, none⟩) := (hp 0 rfl).2.1
        have e8 : A.tmps.getD 8 undef = Value.pointer (some ⟨g, 0, none⟩) := ((hp 0 rfl).2.2 8 rfl).trans f0
        clear hlow hun hnl hp
        refine wpOp_go rfl rfl ?_
        go_simp
        first | exact ⟨_, rfl, hG.past 1 (by decide), ⟨⟩, rfl⟩ | exact ⟨hG.past 1 (by decide), ⟨⟩, rfl⟩ | exact ⟨hG.past 1 (by decide), rfl⟩ | exact hG.past 1 (by decide) | exact ⟨hG.past 1 (by decide), ⟨⟩⟩ | exact ⟨_, rfl, hG.past 1 (by decide), ⟨⟩, trivial⟩ | exact ⟨_, rfl, ⟨⟩, rfl⟩ | exact ⟨⟨⟩, rfl⟩
      · intro L f A w6 Q hL hG hsz hlow hun hnl hp
        have f1 : f 1 = Value.pointer (some ⟨g, 0, none⟩) := (hp 1 rfl).2.1
        have e9 : A.tmps.getD 9 undef = Value.pointer (some ⟨g, 0, none⟩) := ((hp 1 rfl).2.2 9 rfl).trans f1
        clear hlow hun hnl hp
        refine wpOp_go rfl rfl ?_
        go_simp
        first | exact ⟨_, rfl, hG.past 2 (by decide), ⟨⟩, rfl⟩ | exact ⟨hG.past 2 (by decide), ⟨⟩, rfl⟩ | exact ⟨hG.past 2 (by decide), rfl⟩ | exact hG.past 2 (by decide) | exact ⟨hG.past 2 (by decide), ⟨⟩⟩ | exact ⟨_, rfl, hG.past 2 (by decide), ⟨⟩, trivial⟩ | exact ⟨_, rfl, ⟨⟩, rfl⟩ | exact ⟨⟨⟩, rfl⟩
      · intro L f A w6 Q hL hG hsz hlow hun hnl hp
        have f2 : f 2 = Value.pointer (some ⟨g, 5, none⟩) := (hp 2 rfl).2.1
        have e10 : A.tmps.getD 10 undef = Value.pointer (some ⟨g, 5, none⟩) := ((hp 2 rfl).2.2 10 rfl).trans f2
        have hcc : w6.cell? ⟨g, 5, none⟩ = some (.map (some c.rl)) := HOB.out L w6 hG
        clear hlow hun hnl hp
        refine wpOp_go rfl rfl ?_
        go_simp
        first | exact ⟨_, rfl, hG.past 3 (by decide), ⟨⟩, rfl⟩ | exact ⟨hG.past 3 (by decide), ⟨⟩, rfl⟩ | exact ⟨hG.past 3 (by decide), rfl⟩ | exact hG.past 3 (by decide) | exact ⟨hG.past 3 (by decide), ⟨⟩⟩ | exact ⟨_, rfl, hG.past 3 (by decide), ⟨⟩, trivial⟩ | exact ⟨_, rfl, ⟨⟩, rfl⟩ | exact ⟨⟨⟩, rfl⟩
      · intro L f A w6 Q hL hG hsz hlow hun hnl hp
        have e0 : A.tmps.getD 0 undef = Value.pointer (some ⟨g, 0, none⟩) := hlow 0 rfl
        clear hlow hun hnl hp
        refine wpOp_go rfl rfl ?_
        go_simp
        first | exact ⟨_, rfl, hG.past 4 (by decide), ⟨⟩, rfl⟩ | exact ⟨hG.past 4 (by decide), ⟨⟩, rfl⟩ | exact ⟨hG.past 4 (by decide), rfl⟩ | exact hG.past 4 (by decide) | exact ⟨hG.past 4 (by decide), ⟨⟩⟩ | exact ⟨_, rfl, hG.past 4 (by decide), ⟨⟩, trivial⟩ | exact ⟨_, rfl, ⟨⟩, rfl⟩ | exact ⟨⟨⟩, rfl⟩
      · intro L f A w6 Q hL hG hsz hlow hun hnl hp
        have f4 : f 4 = Value.pointer (some ⟨g, 0, none⟩) := (hp 4 rfl).2.1
        have e12 : A.tmps.getD 12 undef = Value.pointer (some ⟨g, 0, none⟩) := ((hp 4 rfl).2.2 12 rfl).trans f4
        clear hlow hun hnl hp
        refine wpOp_go rfl rfl ?_
        go_simp
        first | exact ⟨_, rfl, hG.past 5 (by decide), ⟨⟩, rfl⟩ | exact ⟨hG.past 5 (by decide), ⟨⟩, rfl⟩ | exact ⟨hG.past 5 (by decide), rfl⟩ | exact hG.past 5 (by decide) | exact ⟨hG.past 5 (by decide), ⟨⟩⟩ | exact ⟨_, rfl, hG.past 5 (by decide), ⟨⟩, trivial⟩ | exact ⟨_, rfl, ⟨⟩, rfl⟩ | exact ⟨⟨⟩, rfl⟩
      · intro L f A w6 Q hL hG hsz hlow hun hnl hp
        have f5 : f 5 = Value.pointer (some ⟨g, 0, none⟩) := (hp 5 rfl).2.1
        have e13 : A.tmps.getD 13 undef = Value.pointer (some ⟨g, 0, none⟩) := ((hp 5 rfl).2.2 13 rfl).trans f5
        clear hlow hun hnl hp
        refine wpOp_go rfl rfl ?_
        go_simp
        first | exact ⟨_, rfl, hG.past 6 (by decide), ⟨⟩, rfl⟩ | exact ⟨hG.past 6 (by decide), ⟨⟩, rfl⟩ | exact ⟨hG.past 6 (by decide), rfl⟩ | exact hG.past 6 (by decide) | exact ⟨hG.past 6 (by decide), ⟨⟩⟩ | exact ⟨_, rfl, hG.past 6 (by decide), ⟨⟩, trivial⟩ | exact ⟨_, rfl, ⟨⟩, rfl⟩ | exact ⟨⟨⟩, rfl⟩
      · intro L f A w6 Q hL hG hsz hlow hun hnl hp
        have f6 : f 6 = Value.pointer (some ⟨g, 6, none⟩) := (hp 6 rfl).2.1
        have e14 : A.tmps.getD 14 undef = Value.pointer (some ⟨g, 6, none⟩) := ((hp 6 rfl).2.2 14 rfl).trans f6
        obtain rfl := hG.a hL
        clear hlow hun hnl hp
        refine wpOp_go rfl rfl ?_
        go_simp
        refine (add_calls w.drew g 6 s.reads 1 HC6.out HF6.out HWR.out).mono ?_
        rintro e w8 ⟨rfl, hw⟩
        exact ⟨_, rfl, ⟨fun _ => hw.trans HWE.out, fun h => by simp at h⟩, ⟨⟩, rfl⟩
      · intro L f A w6 Q hL hG hsz hlow hun hnl hp
        have f7 : f 7 = Value.int .i64 (s.reads + 1) := (hp 7 rfl).2.1
        have e15 : A.tmps.getD 15 undef = Value.int .i64 (s.reads + 1) := ((hp 7 rfl).2.2 15 rfl).trans f7
        have hwx : IntKind.i64.wrap (s.reads + 1 - 1) = s.reads := by rw [IntKind.wrap_i64]; have := HRD.out; omega
        have hwy : IntKind.i64.wrap s.reads = s.reads := by rw [IntKind.wrap_i64]; have := HRD.out; omega
        clear hlow hun hnl hp
        refine wpOp_go rfl rfl ?_
        go_simp
        exact ⟨_, rfl, hG.past 8 (by decide), ⟨⟩, rfl⟩
      · intro L f A w6 Q hL hG hsz hlow hun hnl hp
        have f3 : f 3 = Value.map (some c.rl) := (hp 3 rfl).2.1
        have e11 : A.tmps.getD 11 undef = Value.map (some c.rl) := ((hp 3 rfl).2.2 11 rfl).trans f3
        have f8 : f 8 = Value.int .i64 s.reads := (hp 8 rfl).2.1
        have e16 : A.tmps.getD 16 undef = Value.int .i64 s.reads := ((hp 8 rfl).2.2 16 rfl).trans f8
        have l7 : L 7 = true := by
          cases h : L 7 with
          | true => rfl
          | false => have := hnl 8 7 h rfl; rw [(hp 8 rfl).1] at this; cases this
        obtain rfl := hG.b l7
        clear hlow hun hnl hp
        refine wpOp_go rfl rfl (wp_lkp 65 (.tmp 11) (.tmp 16) true rfl (.tuple #[(.slice none 0 0), .bool false]) ?_ ⟨_, rfl, hG.past 9 (by decide), ⟨⟩, rfl⟩)
        show (Instr.lookup _ (A.tmps.getD 11 undef) (A.tmps.getD 16 undef) true).run _ _ = _
        rw [e11, e16]
        exact HLK.out
      · intro L f A w6 Q hL hG hsz hlow hun hnl hp
        have f9 : f 9 = Value.tuple #[(.slice none 0 0), .bool false] := (hp 9 rfl).2.1
        have e17 : A.tmps.getD 17 undef = Value.tuple #[(.slice none 0 0), .bool false] := ((hp 9 rfl).2.2 17 rfl).trans f9
        clear hlow hun hnl hp
        refine wpOp_go rfl rfl ?_
        go_simp
        first | exact ⟨_, rfl, hG.past 10 (by decide), ⟨⟩, rfl⟩ | exact ⟨hG.past 10 (by decide), ⟨⟩, rfl⟩ | exact ⟨hG.past 10 (by decide), rfl⟩ | exact hG.past 10 (by decide) | exact ⟨hG.past 10 (by decide), ⟨⟩⟩ | exact ⟨_, rfl, hG.past 10 (by decide), ⟨⟩, trivial⟩ | exact ⟨_, rfl, ⟨⟩, rfl⟩ | exact ⟨⟨⟩, rfl⟩
      · intro L f A w6 Q hL hG hsz hlow hun hnl hp
        have f10 : f 10 = Value.tuple #[(.slice none 0 0), .bool false] := (hp 10 rfl).2.1
        have e7 : A.tmps.getD 7 undef = Value.tuple #[(.slice none 0 0), .bool false] := ((hp 10 rfl).2.2 7 rfl).trans f10
        clear hlow hun hnl hp
        refine wpOp_go rfl rfl ?_
        go_simp
        first | exact ⟨_, rfl, hG.past 11 (by decide), ⟨⟩, rfl⟩ | exact ⟨hG.past 11 (by decide), ⟨⟩, rfl⟩ | exact ⟨hG.past 11 (by decide), rfl⟩ | exact hG.past 11 (by decide) | exact ⟨hG.past 11 (by decide), ⟨⟩⟩ | exact ⟨_, rfl, hG.past 11 (by decide), ⟨⟩, trivial⟩ | exact ⟨_, rfl, ⟨⟩, rfl⟩ | exact ⟨⟨⟩, rfl⟩
      · intro L f A w6 Q hL hG hsz hlow hun hnl hp
        have f10 : f 10 = Value.tuple #[(.slice none 0 0), .bool false] := (hp 10 rfl).2.1
        have e7 : A.tmps.getD 7 undef = Value.tuple #[(.slice none 0 0), .bool false] := ((hp 10 rfl).2.2 7 rfl).trans f10
        clear hlow hun hnl hp
        refine wpOp_go rfl rfl ?_
        go_simp
        first | exact ⟨_, rfl, hG.past 12 (by decide), ⟨⟩, rfl⟩ | exact ⟨hG.past 12 (by decide), ⟨⟩, rfl⟩ | exact ⟨hG.past 12 (by decide), rfl⟩ | exact hG.past 12 (by decide) | exact ⟨hG.past 12 (by decide), ⟨⟩⟩ | exact ⟨_, rfl, hG.past 12 (by decide), ⟨⟩, trivial⟩ | exact ⟨_, rfl, ⟨⟩, rfl⟩ | exact ⟨⟨⟩, rfl⟩
      · intro L f A w6 Q hL hG hsz hlow hun hnl hp
        have f11 : f 11 = (.slice none 0 0) := (hp 11 rfl).2.1
        have e18 : A.tmps.getD 18 undef = (.slice none 0 0) := ((hp 11 rfl).2.2 18 rfl).trans f11
        clear hlow hun hnl hp
        refine wpOp_go rfl rfl ?_
        go_simp
        first | exact ⟨_, rfl, hG.past 13 (by decide), ⟨⟩, rfl⟩ | exact ⟨hG.past 13 (by decide), ⟨⟩, rfl⟩ | exact ⟨hG.past 13 (by decide), rfl⟩ | exact hG.past 13 (by decide) | exact ⟨hG.past 13 (by decide), ⟨⟩⟩ | exact ⟨_, rfl, hG.past 13 (by decide), ⟨⟩, trivial⟩ | exact ⟨_, rfl, ⟨⟩, rfl⟩ | exact ⟨⟨⟩, rfl⟩
      · intro L f A w6 Q hL hG hsz hlow hun hnl hp
        have f12 : f 12 = Value.bool false := (hp 12 rfl).2.1
        have e19 : A.tmps.getD 19 undef = Value.bool false := ((hp 12 rfl).2.2 19 rfl).trans f12
        clear hlow hun hnl hp
        refine wpOp_go rfl rfl ?_
        go_simp
        first | exact ⟨_, rfl, hG.past 14 (by decide), ⟨⟩, rfl⟩ | exact ⟨hG.past 14 (by decide), ⟨⟩, rfl⟩ | exact ⟨hG.past 14 (by decide), rfl⟩ | exact hG.past 14 (by decide) | exact ⟨hG.past 14 (by decide), ⟨⟩⟩ | exact ⟨_, rfl, hG.past 14 (by decide), ⟨⟩, trivial⟩ | exact ⟨_, rfl, ⟨⟩, rfl⟩ | exact ⟨⟨⟩, rfl⟩
    case fin =>
      intro L f w9 hLL hG hV
      obtain rfl := hG.b (hLL 7 (by simp))
      have h11 : f 13 = _ := hV 13 (by simp)
      have h12 : f 14 = _ := hV 14 (by simp)
      clear hG hV hLL HLK HOB
      simp only [fillD, Act.put, List.setIfInBounds_toArray, List.set_cons_zero, List.set_cons_succ]
      rw [h11, h12]
      clear h11 h12
      go_wp2_with (at_builtin; refine app_rc w9.heap.size 22 5 (.int .u8 0) 1 1 (.const (.slice none 0 0)) (.tmp 22) rfl rfl Try.underlying22 info_u8 rfl (by decide) (by decide) (.slice none 0 0) 0 [] (bs b) AB n cap rfl rfl (World.ownsRow_nil _ _ _ _) HR7.out (by rw [bs_len]; rw [HN.out]; omega) bs_one (Nat.le_refl _) (by have := HNB.out; have := HN.out; omega) b.length (bs b) (by rw [HN.out]; omega) (by simp) ?_; intro v1 w1 ho hg hat; obtain ⟨A1, c1, rfl, _, _, _⟩ := own_rc ho; have HO := Hd.mk ho; have HB1 := Hd.mk (below_nil hg); clear ho hg hat)
      go_ret
      have hz : w9.heap.size = w.heap.size := HSZ.out
      have hst := HST.out
      rw [HBB.out]
      have ho := HO.out
      rw [hz] at ho
      exact ⟨_, rfl, ho, HW7.out.below HB1.out, hst.trans (Stp.of_below HB1.out)⟩
end
end Go.Proofs.Ytffhncpgknkkaaa
