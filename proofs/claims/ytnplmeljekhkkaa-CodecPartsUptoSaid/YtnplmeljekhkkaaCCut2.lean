/- Walks of the functions that the law reaches. -/
import Derived.Test.YtnplmeljekhkkaaCCut
import Derived.Deep.RegionLaw
namespace Go.Proofs.Ytnplmeljekhkkaa
open Go.RowKit Go.Sac
set_option linter.unusedVariables false
set_option linter.unusedSimpArgs false

set_option maxHeartbeats 2000000 in
theorem cut_calls (A B : Option Addr) (c d : Nat) (b : List UInt8) (ws : List Int) (w : World) (hl : Rc w A (bs b)) (hc : b.length ≤ c) (hw : Rc w B (ns ws)) (hn : b.length ≤ 1099511627776) (hm : ws.length ≤ 1099511627776) :
    Calls Try.prog 15 #[.slice A b.length c, .slice B ws.length d] w fun e w' => RetCut (cutL b ws) (cutE b ws) w e w' := by
  have HL := Hd.mk hl
  have HW := Hd.mk hw
  clear hl hw
  have HC := Hd.mk hc
  go_enter Try.func15, Try.ntmps15
  go_wp2
  go_step3
  go_wp2
  go_step3
  go_wp2
  go_loopw [0, 6, 7, 12] (fun b0 v e0 i wr => ∃ (k : Nat) (rest : List UInt8) (A0 : Option Addr) (c0 : Nat), k ≤ ws.length ∧ i = .int .i64 k ∧ e0 = .int .i64 0 ∧ b0 = .slice A0 rest.length c0 ∧ Hd (rest.length ≤ c0) ∧ rest.length ≤ 1099511627776 ∧ Hd (Rc w A0 (bs rest)) ∧ Hd (rest = cutS b ws k) ∧ Hd (cutE (cutS b ws k) (ws.drop k) = cutE b ws) ∧
      Hd (∃ vs, wr.ownsRow w.heap.size 22 1 v k vs ∧ Accs wr v.ownBlock vs (cutP b ws k)) ∧ Hd (Below w.heap.size w wr)) (fun _ _ _ i _ => ws.length - (intOf i).toNat)
  case atStart => exact ⟨0, b, A, c, Nat.zero_le _, rfl, rfl, rfl, HC, hn, HL, ⟨rfl⟩, ⟨rfl⟩, ⟨[], World.ownsRow_nil _ _ _ _, Accs.nil _ _⟩, ⟨Below.refl _ _⟩⟩
  case round =>
    clear hc HL
    obtain ⟨k, rest, A0, c0, hk, rfl, rfl, rfl, hc, hn, HL, HD, HE, HO, HB⟩ := hrel
    obtain ⟨vs, ho, hacc⟩ := HO.out
    obtain ⟨A1, c1, rfl, hc1, hr1, hb1⟩ := own_rc ho
    have HO := Hd.mk ho
    have HA := Hd.mk hacc
    have HR1 := Hd.mk (And.intro hr1 hb1)
    clear ho hacc hr1 hb1
    by_cases hlt : k < ws.length
    · obtain ⟨bb, off, rfl, hbb, hcc⟩ := HW.out.form (by rw [ns_len]; omega)
      have h1 := (HB.out.cell (p := ⟨bb, off + k, none⟩) hbb).trans (hcc k _ (ns_at hlt))
      obtain ⟨n, hn2⟩ : ∃ n : Nat, max ws[k] 0 = (n : Int) := ⟨(max ws[k] 0).toNat, by omega⟩
      have hq := Hd.mk (rcut_val n ws[k] hn2)
      clear hcc HW
      by_cases hs : n > rest.length
      · have hE := Hd.mk ((HE.out).symm.trans (cutE_short b ws k hlt (by rw [hq.out, ← HD.out]; omega)))
        have hs' : decide (rest.length < n) = true := by simpa using hs
        go_wp2
        go_ret2
        exact RetCut.err 3 w wr HB.out b ws hE.out (by omega)
      · have hs' : decide (rest.length < n) = false := by simp; omega
        have hle : n ≤ rest.length := by omega
        have hcutH := cut_high (P := Try.prog) 22 5 Try.underlying22 info_u8 A0 rest.length c0 n (Nat.le_trans hle hc.out)
        obtain ⟨A2, hcut, hrc, hblk⟩ := cut_low (P := Try.prog) 22 5 Try.underlying22 info_u8 A0 rest.length c0 n hle hc.out
        have hs2 := Hd.mk (cutS_step b ws k hlt)
        have hE := Hd.mk ((cutE_step b ws k hlt (by rw [hq.out, ← HD.out]; omega)).trans HE.out)
        have hP := Hd.mk (cutP_step b ws k hlt)
        have HR := Hd.mk (hrc w (bs rest) (bs_len rest) HL.out)
        clear hrc hblk
        go_wp2
        go_region_law (first
          | (refine step_app wr.heap.size 22 5 (.int .u8 0) 1 1 (.const (.slice none 0 0)) (.tmp 25) rfl rfl Try.underlying22 info_u8 rfl (by decide) (by decide) (.slice none 0 0) 0 [] (bs (rest.take n)) A0 n c0 rfl rfl (World.ownsRow_nil _ _ _ _) (by rw [bs, List.map_take]; exact ((HL.out.below HB.out).drew).take n) (by simp; omega) bs_one (Nat.le_refl _) (by omega) n (bs (rest.take n)) (by omega) (by simp) ?_; intro v2 w2 ho2 hg2 hat2; obtain ⟨A3, c3, rfl, hc3, hr3, hb3⟩ := own_rc ho2; have HO2 := Hd.mk ho2; have HG2 := Hd.mk hg2; have HR3 := Hd.mk (And.intro hc3 (And.intro hr3 hb3)); clear ho2 hg2 hat2 hc3 hr3 hb3)
          | (refine step_app w.heap.size 31 22 (.slice none 0 0) 1 24 (.tmp 22) (.tmp 27) rfl rfl Try.underlying31 info_bytes rfl (by decide) (by decide) (.slice A1 k c1) k vs [.slice A3 n c3] (some ⟨w2.heap.size, 0, none⟩) 1 1 rfl rfl (own_alloc (own_below (own_below HO.out (Below.refl _ _).drew) (below_nil HG2.out)) _) (Rc.one _ _ _) (by simp) (by simp [Value.oneCell']) (Nat.le_trans (Nat.le_trans HB.out.size HG2.out.size) (by simp)) (by omega) (k + 1) (vs ++ [.slice A3 n c3]) rfl rfl ?_; intro v1 w1 ho hg hat; have HO1 := Hd.mk ho; have HG := Hd.mk hg; have HT := Hd.mk hat; clear ho hg hat))
        go_wp2
        go_roundw
        case rel =>
          have hbe := (Below.refl wr.heap.size wr).drew
          have hb2 := below_nil HG2.out
          have hbl := (Below.refl w2.heap.size w2).alloc (Nat.le_refl _) (.cells #[Value.slice A3 n c3] 22)
          have hsz : wr.heap.size ≤ w2.heap.size := HG2.out.size
          have hlen : (rest.drop n).length = rest.length - n := List.length_drop
          refine ⟨k + 1, rest.drop n, A2, c0 - n, by omega, by go_num, rfl, by rw [hlen], ⟨by rw [hlen]; have := hc.out; omega⟩, by rw [hlen]; omega, ⟨by rw [bs, List.map_drop]; exact HR.out⟩, ⟨by rw [hs2.out, hq.out, ← HD.out]⟩, hE, ⟨_, HO1.out, ?_⟩, ⟨?_⟩⟩
          · rw [hP.out, hq.out, ← HD.out]
            have hxl : (rest.take n).length = n := by rw [List.length_take]; omega
            have := (((HA.out.below hbe).below hb2).below hbl).snoc (a := A3) (l := rest.take n) (c := c3) (HR3.out.2.1.below hbl) (by rw [hxl]; exact HR3.out.1) (fun ad e _ => ⟨Nat.lt_of_lt_of_le (HR3.out.2.2 ad e).2 hbl.size, fun e2 => by
              have h1 := (own_lt HO.out ad.block e2.symm).2; have h2 := (HR3.out.2.2 ad e).1; omega⟩) HG.out HT.out
            rw [hxl] at this
            exact this
          · exact below_lift ((below_then HB.out.drew (HB.out.size) hb2).alloc (Nat.le_trans HB.out.size hsz) _) (Nat.le_trans (Nat.le_trans HB.out.size hsz) (by simp)) HG.out (fun b hb => (own_lt HO.out b hb).1)
        case measure => simp [intOf]; omega
    · obtain rfl : k = ws.length := by omega
      have hE := HE.out
      rw [List.drop_length, cutE_end, ← HD.out] at hE
      by_cases hs : 0 < rest.length
      · have hs' : decide (0 < rest.length) = true := by simpa using hs
        have hE := Hd.mk hE
        go_wp2
        go_ret2
        exact RetCut.err 4 w wr HB.out b ws (by rw [← hE.out, if_neg (by omega)]) (by omega)
      · have hs' : decide (0 < rest.length) = false := by simpa using hs
        have hE := Hd.mk hE
        go_wp2
        go_ret2
        have e0 : cutE b ws = 0 := by rw [← hE.out, if_pos (by omega)]
        have eL : cutL b ws = cutP b ws ws.length := by unfold cutL; rw [if_pos e0, cutP_all]
        rw [e0, eL]
        refine ⟨A1, c1, ?_, HA.out.rcc HR1.out.1, ?_, HB.out⟩
        · rw [cutP_len b ws _ (Nat.le_refl _)]; rfl
        · rw [cutP_len b ws _ (Nat.le_refl _)]; exact hc1
end Go.Proofs.Ytnplmeljekhkkaa
