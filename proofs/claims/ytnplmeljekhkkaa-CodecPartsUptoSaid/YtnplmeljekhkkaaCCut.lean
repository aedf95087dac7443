/- Walks of the functions that the law reaches. -/
import Derived.Test.YtnplmeljekhkkaaCSmall
namespace Go.Proofs.Ytnplmeljekhkkaa
open Go.RowKit Go.Sac
set_option linter.unusedVariables false
set_option linter.unusedSimpArgs false

theorem info_bytes : (Try.prog.info? 22).map (fun i => (i.zero, i.size, i.bytes)) = some (some (.slice none 0 0), 1, 24) := by kernel_rfl

/-- What is cut: the error's number, and the fields. -/
def cutE : List UInt8 → List Int → Nat
  | [], [] => 0
  | _ :: _, [] => 4
  | b, n :: ws => if n.toNat > b.length then 3 else cutE (b.drop n.toNat) ws
def cutR : List UInt8 → List Int → List (List UInt8)
  | _, [] => []
  | b, n :: ws => b.take n.toNat :: cutR (b.drop n.toNat) ws
theorem cutE_cons (b : List UInt8) (n : Int) (ws : List Int) : cutE b (n :: ws) = if n.toNat > b.length then 3 else cutE (b.drop n.toNat) ws := by cases b <;> simp [cutE]
/-- none where there is an error -/
def cutL (b : List UInt8) (ws : List Int) : List (List UInt8) := if cutE b ws = 0 then cutR b ws else []
def cutS (b : List UInt8) (ws : List Int) (k : Nat) : List UInt8 := ws.take k |>.foldl (fun r n => r.drop n.toNat) b
def cutP (b : List UInt8) (ws : List Int) (k : Nat) : List (List UInt8) := cutR b (ws.take k)
theorem cutS_zero (b : List UInt8) (ws : List Int) : cutS b ws 0 = b := rfl
theorem cutS_step (b : List UInt8) (ws : List Int) (k : Nat) (h : k < ws.length) : cutS b ws (k + 1) = (cutS b ws k).drop ws[k].toNat := by
  unfold cutS; rw [List.take_succ_eq_append_getElem h, List.foldl_append]; rfl
theorem cutR_app (b : List UInt8) (u v : List Int) : cutR b (u ++ v) = cutR b u ++ cutR (u.foldl (fun r n => r.drop n.toNat) b) v := by
  induction u generalizing b with
  | nil => simp [cutR]
  | cons n u ih => simp [cutR, ih]
theorem cutP_step (b : List UInt8) (ws : List Int) (k : Nat) (h : k < ws.length) : cutP b ws (k + 1) = cutP b ws k ++ [(cutS b ws k).take ws[k].toNat] := by
  unfold cutP cutS; rw [List.take_succ_eq_append_getElem h, cutR_app]; simp [cutR]
theorem cutP_len (b : List UInt8) (ws : List Int) (k : Nat) (h : k ≤ ws.length) : (cutP b ws k).length = k := by
  induction k with
  | zero => simp [cutP, cutR]
  | succ k ih => rw [cutP_step b ws k h, List.length_append, ih (by omega)]; rfl
theorem cutP_all (b : List UInt8) (ws : List Int) : cutP b ws ws.length = cutR b ws := by unfold cutP; rw [List.take_length]
theorem cutE_step (b : List UInt8) (ws : List Int) (k : Nat) (h : k < ws.length) (hle : ws[k].toNat ≤ (cutS b ws k).length) : cutE (cutS b ws (k + 1)) (ws.drop (k + 1)) = cutE (cutS b ws k) (ws.drop k) := by
  rw [cutS_step b ws k h, List.drop_eq_getElem_cons h]
  rw [cutE_cons, if_neg (by omega)]
theorem cutE_short (b : List UInt8) (ws : List Int) (k : Nat) (h : k < ws.length) (hle : ws[k].toNat > (cutS b ws k).length) : cutE (cutS b ws k) (ws.drop k) = 3 := by
  rw [List.drop_eq_getElem_cons h, cutE_cons, if_pos hle]
theorem cutE_end (b : List UInt8) : cutE b [] = if b.length = 0 then 0 else 4 := by
  cases b <;> simp [cutE]

/-- What Cut hands back: fields and the error's number. -/
def RetCut (ls : List (List UInt8)) (n : Nat) (w : World) (e : Ending) (w' : World) : Prop :=
  ∃ A c, e = .returned (.tuple #[.slice A ls.length c, .int .i64 (n : Int)]) ∧ Rcc w' A ls ∧ ls.length ≤ c ∧ Below w.heap.size w w'
theorem RetCut.err (n : Nat) (w w' : World) (hb : Below w.heap.size w w') (b : List UInt8) (ws : List Int) (h : cutE b ws = n) (h0 : n ≠ 0) : RetCut (cutL b ws) (cutE b ws) w (.returned (.tuple #[.slice none 0 0, .int .i64 (n : Int)])) w' := by
  have : cutL b ws = [] := by unfold cutL; rw [if_neg (by omega)]
  rw [this, h]
  exact ⟨none, 0, rfl, ⟨[], Rc.nil _ _, rfl, by intro i l hl; simp at hl⟩, Nat.le_refl _, hb⟩

theorem rcut_val (n : Nat) (q : Int) (h : max q 0 = (n : Int)) : q.toNat = n := by omega

set_option maxHeartbeats 1000000 in
theorem rcut_calls (A B : Option Addr) (c d : Nat) (b : List UInt8) (ws : List Int) (w : World) (hl : Rc w A (bs b)) (hc : b.length ≤ c) (hw : Rc w B (ns ws)) (hn : b.length ≤ 1099511627776) (hm : ws.length ≤ 1099511627776) :
    Calls Try.prog 16 #[.slice A b.length c, .slice B ws.length d] w fun e w' => RetCut (cutL b ws) (cutE b ws) w e w' := by
  have HL := Hd.mk hl
  have HW := Hd.mk hw
  clear hl hw
  go_enter Try.func16, Try.ntmps16
  go_wp2
  go_loopw [6, 7, 8] (fun v at_ i wr => ∃ k p : Nat, k ≤ ws.length ∧ i = .int .i64 k ∧ at_ = .int .i64 p ∧ p ≤ b.length ∧ Hd (b.drop p = cutS b ws k) ∧ Hd (cutE (cutS b ws k) (ws.drop k) = cutE b ws) ∧
      Hd (∃ vs, wr.ownsRow w.heap.size 22 1 v k vs ∧ Accs wr v.ownBlock vs (cutP b ws k)) ∧ Hd (Below w.heap.size w wr)) (fun _ _ i _ => ws.length - (intOf i).toNat)
  case atStart => exact ⟨0, 0, Nat.zero_le _, rfl, rfl, Nat.zero_le _, ⟨rfl⟩, ⟨rfl⟩, ⟨[], World.ownsRow_nil _ _ _ _, Accs.nil _ _⟩, ⟨Below.refl _ _⟩⟩
  case round =>
    obtain ⟨k, p, hk, rfl, rfl, hp, HD, HE, HO, HB⟩ := hrel
    obtain ⟨vs, ho, hacc⟩ := HO.out
    obtain ⟨A1, c1, rfl, hc1, hr1, hb1⟩ := own_rc ho
    have HO := Hd.mk ho
    have HA := Hd.mk hacc
    have HR1 := Hd.mk (And.intro hr1 hb1)
    clear ho hacc hr1 hb1
    by_cases hlt : k < ws.length
    · obtain ⟨bb, off, rfl, hbb, hcc⟩ := HW.out.form (by rw [ns_len]; omega)
      have h1 := (HB.out.cell (p := ⟨bb, off + k, none⟩) hbb).trans (hcc k _ (ns_at hlt))
      obtain ⟨n, hn2⟩ : ∃ n : Nat, max ws[k] 0 = (n : Int) := ⟨(max ws[k] 0).toNat, by omega⟩
      have hq := Hd.mk (rcut_val n ws[k] hn2)
      have hlen : (cutS b ws k).length = b.length - p := by rw [← HD.out, List.length_drop]
      clear hcc HW
      by_cases hs : (n : Int) > (b.length : Int) - p
      · have hE := Hd.mk ((HE.out).symm.trans (cutE_short b ws k hlt (by rw [hq.out]; omega)))
        have hs' : decide ((b.length : Int) - p < n) = true := by simpa using hs
        clear hlen
        go_wp2
        go_ret2
        exact RetCut.err 3 w wr HB.out b ws hE.out (by omega)
      · have hs' : decide ((b.length : Int) - p < n) = false := by simp; omega
        have hle : p + n ≤ b.length := by omega
        obtain ⟨A2, hcut, hrc, hblk⟩ := cut_mid (P := Try.prog) 22 5 Try.underlying22 info_u8 A b.length c p (p + n) (by omega) hle hc
        rw [show p + n - p = n by omega] at hcut
        simp only [Int.natCast_add] at hcut
        have hs := Hd.mk (cutS_step b ws k hlt)
        have hE := Hd.mk ((cutE_step b ws k hlt (by rw [hq.out]; omega)).trans HE.out)
        have hP := Hd.mk (cutP_step b ws k hlt)
        obtain ⟨x, hx⟩ : ∃ x, (cutS b ws k).take ws[k].toNat = x := ⟨_, rfl⟩
        have hxl : x.length = n := by rw [← hx, List.length_take, hq.out]; omega
        have hxr : Rc w A2 (bs x) := by
          have := hrc w (bs b) (bs_len b) HL.out
          have e : ((bs b).take (p + n)).drop p = bs x := by
            rw [← hx, hq.out, ← HD.out, bs, bs, ← List.map_take, ← List.map_drop, List.take_drop]
          rw [e] at this; exact this
        have HX := Hd.mk (And.intro hx (And.intro hxl hxr))
        have HBLK : Hd (∀ ad, A2 = some ad → x ≠ [] → ad.block < w.heap.size) := ⟨fun ad e hne => by
          obtain ⟨b2, off2, e2, hlt2, _⟩ := hxr.form (by rw [bs_len]; exact List.length_pos_iff.2 hne)
          rw [e2] at e; injection e with e; subst e; exact hlt2⟩
        clear hx hxl hxr hrc hblk hlen
        go_wp2_with (at_builtin; refine app_rc w.heap.size 31 22 (.slice none 0 0) 1 24 (.tmp 27) (.tmp 34) rfl rfl Try.underlying31 info_bytes rfl (by decide) (by decide) (.slice A1 k c1) k vs [.slice A2 n (c - p)] (some ⟨wr.heap.size, 0, none⟩) 1 1 rfl rfl (own_alloc HO.out _) (Rc.one _ _ _) (by simp) (by simp [Value.oneCell']) (Nat.le_trans HB.out.size (by simp)) (by omega) (k + 1) (vs ++ [.slice A2 n (c - p)]) rfl rfl ?_; intro v1 w1 ho hg hat; have HO1 := Hd.mk ho; have HG := Hd.mk hg; have HT := Hd.mk hat; clear ho hg hat)
        go_roundw
        case rel =>
          have hbl := (Below.refl wr.heap.size wr).alloc (Nat.le_refl _) (.cells #[Value.slice A2 n (c - p)] 22)
          refine ⟨k + 1, p + n, by omega, by go_num, by go_num, hle, ⟨by rw [hs.out, hq.out, ← HD.out, List.drop_drop]⟩, hE, ⟨_, HO1.out, ?_⟩, ⟨below_lift (HB.out.alloc HB.out.size _) (Nat.le_trans HB.out.size (by simp)) HG.out (fun b hb => (own_lt HO.out b hb).1)⟩⟩
          rw [hP.out, HX.out.1]
          have := (HA.out.below hbl).snoc (a := A2) (l := x) (c := c - p) ((HX.out.2.2.below HB.out).below hbl) (by rw [HX.out.2.1]; omega) (fun ad e hne => ⟨Nat.lt_of_lt_of_le (HBLK.out ad e hne) (Nat.le_trans HB.out.size hbl.size), fun e2 => by
            have := (own_lt HO.out ad.block e2.symm).1; have := HBLK.out ad e hne; omega⟩) HG.out HT.out
          rw [HX.out.2.1] at this
          exact this
        case measure => simp [intOf]; omega
    · obtain rfl : k = ws.length := by omega
      have hE := HE.out
      rw [List.drop_length, cutE_end, ← HD.out, List.length_drop] at hE
      by_cases hs : p < b.length
      · have hE := Hd.mk hE
        have hs' : decide (p < b.length) = true := by simpa using hs
        go_wp2
        go_ret2
        exact RetCut.err 4 w wr HB.out b ws (by rw [← hE.out, if_neg (by omega)]) (by omega)
      · have hs' : decide (p < b.length) = false := by simpa using hs
        have hE := Hd.mk hE
        go_wp2
        go_ret2
        have e0 : cutE b ws = 0 := by rw [← hE.out, if_pos (by omega)]
        have eL : cutL b ws = cutP b ws ws.length := by unfold cutL; rw [if_pos e0, cutP_all]
        rw [e0, eL]
        refine ⟨A1, c1, ?_, HA.out.rcc HR1.out.1, ?_, HB.out⟩
        · rw [cutP_len b ws _ (Nat.le_refl _)]; rfl
        · rw [cutP_len b ws _ (Nat.le_refl _)]; exact hc1
end Go.Proofs.Ytnplmeljekhkkaa
