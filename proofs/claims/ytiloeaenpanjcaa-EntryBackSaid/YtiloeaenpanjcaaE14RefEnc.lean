/- Walks: entries as bytes, by the document's answer. -/
import Derived.Test.YtiloeaenpanjcaaCPadRef
import Derived.Test.YtiloeaenpanjcaaCRef
import Derived.Test.YtiloeaenpanjcaaE14Enc
import Derived.Test.YtiloeaenpanjcaaE14RefRight
namespace Go.Proofs.Ytiloeaenpanjcaa
open Go.RowKit Go.Sac
set_option linter.unusedVariables false
set_option linter.unusedSimpArgs false

theorem rput4_calls (x : Int) (w : World) (h0 : 0 ≤ x ∧ x ≤ 1000000) :
    Calls Try.prog 40 #[.int .u64 x, .int .i64 4] w fun e w' => RetB 5 (putB x.toNat 4) w e w' := by
  obtain ⟨n, rfl⟩ := Int.eq_ofNat_of_zero_le h0.1
  exact rput_some n 4 w (by decide) (by omega)
theorem pad_head (q : UInt8) (l : List UInt8) : padB ([q] ++ l) 28 = [q] ++ padB l 27 := by
  unfold padB
  rw [List.append_assoc]
  congr 3
  simp
set_option maxHeartbeats 8000000 in
set_option maxRecDepth 100000 in
theorem rencode_calls (A : Option Addr) (n c : Nat) (l : List Ent) (w : World) (hl : Rc w A (ens l)) (e1 : n = l.length) (hn : l.length ≤ 5864062014634) (hs : ∀ y ∈ l, y.1.size ≤ 140737488351232) :
    Calls Try.prog 24 #[.slice A n c] w (RetE (encB l) (encR l) w) := by
  have HL := Hd.mk hl
  have HE := Hd.mk e1
  have HS := Hd.mk hs
  have HN := Hd.mk hn
  cases hr : rightE l
  · have e2 : encB l = [] := by unfold encB; rw [hr]; rfl
    have e3 : encR l = 2 := by unfold encR; rw [hr]; rfl
    rw [e2, e3]
    have HR := Hd.mk hr
    clear hl e1 hs hn e2 e3 hr
    go_enter Try.func24, Try.ntmps24
    go_wp2_with (go_at_call 22; refine (rright_calls A n c l _ HL.out HE.out HN.out HS.out).mono ?_; rintro e w1 ⟨rfl, hb⟩; rw [HR.out]; have HB := Hd.mk hb; clear hb)
    go_ret2
    exact ⟨_, rfl, World.ownsRow_nil _ _ _ _, HB.out⟩
  · have e2 : encB l = encRows l := by unfold encB; rw [hr]; rfl
    have e3 : encR l = 0 := by unfold encR; rw [hr]; rfl
    rw [e2, e3]
    have HR := Hd.mk hr
    obtain ⟨h560, _, hall⟩ := right_is hr
    have HALL := Hd.mk hall
    have H27 : Hd (∀ y ∈ l, y.1.size ≤ 27) := ⟨fun y hy => (named_len (hall y hy).1).2⟩
    have hn560 : n ≤ 560 := by omega
    clear hl e1 hs hn e2 e3 hr hall h560
    go_enter Try.func24, Try.ntmps24
    go_wp2_with (go_at_call 22; refine (rright_calls A n c l _ HL.out HE.out HN.out HS.out).mono ?_; rintro e w1 ⟨rfl, hb⟩; rw [HR.out]; have HB := Hd.mk hb; clear hb)
    go_loopw [4, 5] (fun ov iv wr => ∃ (i m : Nat) (X : List UInt8), iv = .int .i64 (i : Int) ∧ i ≤ n ∧ Hd (m = i * 32) ∧ Hd (encRows (l.take i) = X) ∧ Hd (X.length = m) ∧ Hd (wr.ownsRow w.heap.size 5 1 ov m (bs X)) ∧ Hd (Below w.heap.size w wr)) (fun _ iv _ => n - (intOf iv).toNat)
    case atStart => exact ⟨0, 0, [], rfl, Nat.zero_le _, ⟨rfl⟩, ⟨rfl⟩, ⟨rfl⟩, ⟨World.ownsRow_nil _ _ _ _⟩, HB⟩
    case round =>
      clear HB
      obtain ⟨i, m, X, rfl, hi, HMI, HX, HXL, HO, HB⟩ := hrel
      by_cases hlt : i < n
      · have hil : i < l.length := by rw [← HE.out]; exact hlt
        have hil2 : (i : Int) < (n : Int) := by omega
        have hmb : m ≤ 20000 := by have := HMI.out; omega
        obtain ⟨b, off, rfl, hcell⟩ := node_cell HL.out i hil
        have hst := encRows_snoc l i hil
        have hm27 := H27.out _ (List.getElem_mem hil)
        have hnod := (HALL.out _ (List.getElem_mem hil)).2
        rw [HX.out] at hst
        obtain ⟨⟨xn, xk⟩, hx0⟩ : ∃ x, l[i] = x := ⟨_, rfl⟩
        rw [hx0] at hst hm27 hnod hcell
        dsimp only at hm27 hnod hcell
        obtain ⟨hk1, hk2⟩ := hnod
        have HC := Hd.mk hcell
        have HST := Hd.mk hst
        have hw64 : IntKind.u64.wrap xk = xk := by rw [IntKind.wrap_u64]; omega
        have h27 : (padB xn.data.toList 27).length = 27 := by
          have := padB_len xn.data.toList 27 (by simp; omega)
          exact this
        obtain ⟨Y, hY⟩ : ∃ Y, padB xn.data.toList 27 = Y := ⟨_, rfl⟩
        obtain ⟨Z, hZ⟩ : ∃ Z, putB xk.toNat 4 = Z := ⟨_, rfl⟩
        have hZl : Z.length = 4 := by rw [← hZ, putB_len]
        rw [hY] at h27
        have HZ := Hd.mk hZ
        have HYL := Hd.mk h27
        have HZL := Hd.mk hZl
        have HEE : Hd (encE (xn, xk) = ([UInt8.ofNat xn.size] ++ Y) ++ Z) := ⟨by unfold encE; dsimp only; rw [hY, hZ]⟩
        have hby := byte_len xn.size hm27
        obtain ⟨q, hq⟩ : ∃ q : UInt8, UInt8.ofNat xn.size = q := ⟨_, rfl⟩
        rw [hq] at hby HEE
        have HQ := Hd.mk hby
        have hsz : xn.data.toList.length = xn.size := by simp
        have HSZ := Hd.mk hsz
        obtain ⟨N, hN⟩ : ∃ N, [q] ++ xn.data.toList = N := ⟨_, rfl⟩
        have HNL : Hd (N.length = 1 + xn.size) := ⟨by rw [← hN]; simp; omega⟩
        have HNB : Hd (bs [q] ++ bs xn.data.toList = bs N) := ⟨by rw [← hN]; simp⟩
        have HPN : Hd (padB N 28 = [q] ++ Y) := ⟨by rw [← hN, pad_head, hY]⟩
        have hcx := (hcell wr HB.out).1
        have W1 : Hd (Below wr.heap.size wr (wr.alloc (.cells #[Value.int .u8 (xn.size : Int)] 5))) := ⟨(Below.refl _ _).alloc (Nat.le_refl _) _⟩
        have hc8 := (hcell _ (below_then HB.out HB.out.size W1.out)).1
        have OB : Hd ((wr.alloc (.cells #[Value.int .u8 (xn.size : Int)] 5)).ownsRow wr.heap.size 5 1 (.slice (some ⟨wr.heap.size, 0, none⟩) 1 1) 1 (bs [q])) := ⟨by
          rw [HQ.out]
          exact (Blk.new wr 5 [Value.int .u8 (xn.size : Int)]).own (Nat.le_refl _) 1 rfl (by simp)⟩
        have T1 : Hd True := ⟨trivial⟩
        have T2 : Hd True := ⟨trivial⟩
        clear hcell hst hx0 hY hZ h27 hZl hq hil hsz hN hby
        go_wp2_with (first
          | (refine wpList_bytes rfl 9 42 5 (.tmp 29) rfl xn rfl Try.underlying9 Try.underlying42 Try.underlying5 ?_; intro cb Wb hrr hbb hcc hzz; have HRB := Hd.mk hrr; have OB := Hd.mk (own_below OB.out hbb); have W1 := Hd.mk (below_then W1.out W1.out.size hbb); clear hrr hbb hzz)
          | (clear T1; at_builtin; refine app_rc wr.heap.size 42 5 (.int .u8 0) 1 1 (.tmp 24) (.tmp 30) rfl rfl Try.underlying42 info_u8 rfl (by decide) (by decide) _ 1 (bs [q]) (bs xn.data.toList) _ xn.size cb rfl rfl OB.out HRB.out (by rw [bs_len, HSZ.out, Nat.mul_one]) bs_one W1.out.size (by omega) (1 + xn.size) (bs N) rfl HNB.out ?_
             intro v2 w2 ho hg hat
             have W1 := Hd.mk (below_lift W1.out W1.out.size hg (fun p hp => (own_lt OB.out p hp).1))
             obtain ⟨A2, c2, rfl, _, hr2, _⟩ := own_rc ho; have R2 := Hd.mk hr2; clear ho hg hat hr2)
          | (go_at_call 39; refine (rpad_calls A2 (1 + xn.size) c2 N 28 _ R2.out (by have := HNL.out; omega) (by decide) HNL.out.symm).mono ?_; rw [HPN.out]; rintro e w3 ⟨v3, rfl, ho, hb⟩; obtain ⟨A3, c3, rfl, _, hr3, _⟩ := own_rc ho; rw [show ([q] ++ Y).length = 28 by simp [HYL.out]]; have R3 := Hd.mk hr3; have HO := Hd.mk (own_below HO.out (below_then W1.out W1.out.size hb)); have HB := Hd.mk (below_then HB.out HB.out.size (below_then W1.out W1.out.size hb)); clear hb ho hr3)
          | (clear T2; at_builtin; refine app_rc w.heap.size 42 5 (.int .u8 0) 1 1 (.tmp 32) (.tmp 34) rfl rfl Try.underlying42 info_u8 rfl (by decide) (by decide) _ m (bs X) (bs ([q] ++ Y)) _ 28 c3 rfl rfl HO.out R3.out (by rw [bs_len]; simp [HYL.out]) bs_one HB.out.size (by omega) (m + 28) (bs (X ++ ([q] ++ Y))) rfl (by simp) ?_
             intro v4 w4 ho hg hat
             have HB := Hd.mk (below_lift HB.out HB.out.size hg (fun p hp => (own_lt HO.out p hp).1))
             have HO := Hd.mk ho; have hcy := (HC.out _ HB.out).2; clear ho hg hat)
          | (go_at_call 40; refine (rput4_calls xk _ (by omega)).mono ?_; rw [HZ.out]; rintro e w5 ⟨v5, rfl, ho, hb⟩; obtain ⟨A5, c5, rfl, _, hr5, _⟩ := own_rc ho; rw [HZL.out]; have R5 := Hd.mk hr5; have HO := Hd.mk (own_below HO.out hb); have HB := Hd.mk (below_then HB.out HB.out.size hb); clear hb ho hr5)
          | (at_builtin; refine app_rc w.heap.size 42 5 (.int .u8 0) 1 1 (.tmp 36) (.tmp 43) rfl rfl Try.underlying42 info_u8 rfl (by decide) (by decide) _ (m + 28) (bs (X ++ ([q] ++ Y))) (bs Z) _ 4 c5 rfl rfl HO.out R5.out (by rw [bs_len, HZL.out]) bs_one HB.out.size (by omega) (m + 32) (bs ((X ++ ([q] ++ Y)) ++ Z)) (by omega) (by simp) ?_
             intro v6 w6 ho hg hat
             have HB := Hd.mk (below_lift HB.out HB.out.size hg (fun p hp => (own_lt HO.out p hp).1))
             have HO := Hd.mk ho; clear ho hg hat))
        go_roundw
        case rel =>
          refine ⟨i + 1, m + 32, (X ++ ([q] ++ Y)) ++ Z, by go_num, by omega, ⟨by have := HMI.out; omega⟩, ⟨?_⟩, ⟨?_⟩, HO, HB⟩
          · rw [HST.out, HEE.out]; simp
          · simp [HXL.out, HYL.out, HZL.out]
        case measure => simp [intOf]; omega
      · obtain rfl : i = n := by omega
        have HA : Hd (encRows l = X) := ⟨by rw [← HX.out, HE.out, List.take_of_length_le (Nat.le_refl _)]⟩
        go_wp2
        go_ret2
        refine ⟨_, rfl, ?_, HB.out⟩
        rw [HA.out, HXL.out]
        exact HO.out
end Go.Proofs.Ytiloeaenpanjcaa
