/- W06Seal: a seal is written. -/
import Derived.Test.YtffhncpgknkkaaaW06Write
namespace Go.Proofs.Ytffhncpgknkkaaa
open Go.RowKit Go.Sac
set_option linter.unusedVariables false
set_option linter.unusedSimpArgs false
def tornB (old b : List UInt8) (k : Nat) : List UInt8 := b.take k ++ (if k < b.length then old.drop k else [])
def sealS (s : Wd) (i : Int) (b : List UInt8) : Wd := if i = 0 then { s with s0 := b } else { s with s1 := b }
def sealP (s : Wd) (i : Int) (b : List UInt8) : Wd := if sealedP s i = true then sealS (takesP (noteP s 4 i 0 b) b.length) i (tornB (sealOf s i) b (takesK s b.length).toNat) else s
def sealR (s : Wd) (i : Int) (b : List UInt8) : Bool := sealedP s i && !(takesP (noteP s 4 i 0 b) b.length).dead
section
variable {w : World} {g : Nat} {K : Nat → Nat} {c : Wc} {s : Wd}
theorem sealS_dead (i : Int) (b : List UInt8) : (sealS s i b).dead = s.dead := by unfold sealS; split <;> rfl
theorem seal_end (h : WdAt w g K c s) {w1 : World} (hb : Below w.heap.size w w1) {i : Int} (hi : i = 0 ∨ i = 1) {b : List UInt8} {v : Value} (ho : w1.ownsRow w.heap.size 5 1 v b.length (bs b)) :
    ∃ K' c', WdAt (w1.setCell ⟨g, 2 + i.toNat, none⟩ v) g K' c' (sealS s i b) ∧ Stp K K' w (w1.setCell ⟨g, 2 + i.toNat, none⟩ v) ∧ ∀ k, K k ≠ 0 → K' k = K k := by
  have h1 := h.below hb
  obtain ⟨A, cap, rfl, hc, hr, hA⟩ := own_rc ho
  obtain ⟨K', hK'⟩ : ∃ K' : Nat → Nat, K' = fun k => if A.map (·.block) = some k then 6 else K k := ⟨_, rfl⟩
  have old : ∀ k, k < w.heap.size → K' k = K k := fun k hk => by
    rw [hK']
    refine if_neg fun e => ?_
    cases hAA : A with
    | none => rw [hAA] at e; cases e
    | some a => rw [hAA] at e; injection e with e; have e : a.block = k := e; have := (hA a hAA).1; omega
  have old2 : ∀ k, K k ≠ 0 → K' k = K k := fun k hk => old k (h.dom k hk)
  obtain ⟨w', hw'⟩ : ∃ w', w1.setCell ⟨g, 2 + i.toNat, none⟩ (.slice A b.length cap) = w' := ⟨_, rfl⟩
  have hsz : w'.heap.size = w1.heap.size := by rw [← hw']; simp
  have oth : ∀ k, k ≠ g → w'.heap[k]? = w1.heap[k]? := fun k hk => by rw [← hw']; exact Below.heap_setCell w1 ⟨g, 2 + i.toNat, none⟩ _ k hk
  have blk : ∀ k, K k ≠ 0 → K k ≠ 1 → w'.heap[k]? = w.heap[k]? := fun k h0 h3 => (oth k (fun e => h3 (by rw [e]; exact h.kg))).trans (hb.block k (h.dom k h0))
  have row : ∀ {A : Option Addr} {l : List UInt8} {n : Nat}, Row6 w K A l n → Row6 w' K' A l n := fun r =>
    ⟨(r.keep fun k _ h6 => blk k (by omega) (by omega)).rc, r.cap, fun a ha => by rw [old2 _ (by rw [r.kd a ha]; decide)]; exact r.kd a ha⟩
  have hg := h.obj.lt
  have hn6 : Row6 w' K' A b cap := ⟨hr.keep fun q off e hq => oth q (fun e2 => by have h4 := (hA _ e).1; have h4 : w.heap.size ≤ q := h4; omega), hc, fun a ha => by rw [hK']; dsimp only; rw [if_pos (by rw [ha]; rfl)]⟩
  have ho1 : Blk w' g 73 ((c.cells s).set (2 + i.toNat) (.slice A b.length cap)) := by rw [← hw']; exact h1.obj.set (2 + i.toNat) _
  have hst : w'.os = w1.os ∧ w'.tape = w1.tape ∧ w'.output = w1.output := by rw [← hw']; exact ⟨rfl, rfl, rfl⟩
  rw [hw']
  refine ⟨K', if i = 0 then { c with A0 := A, c0 := cap } else { c with A1 := A, c1 := cap }, ?_, ⟨hst.1.trans hb.os, hst.2.1.trans hb.tape, hst.2.2.trans hb.output, by rw [hsz]; exact hb.size, fun k hk h0 => (oth k (fun e => by rw [e, h.kg] at h0; cases h0)).trans (hb.block k hk), fun k hk h0 => by rw [old k hk]; exact h0⟩, old2⟩
  have kg' : K' g = 1 := by rw [old2 g (by rw [h.kg]; decide)]; exact h.kg
  have krs' : K' c.rs = 2 := by rw [old2 _ (by rw [h.krs]; decide)]; exact h.krs
  have krl' : K' c.rl = 3 := by rw [old2 _ (by rw [h.krl]; decide)]; exact h.krl
  have ms' := map_keep h.ms (blk _ (by rw [h.krs]; decide) (by rw [h.krs]; decide))
  have ml' := map_keep h.ml (blk _ (by rw [h.krl]; decide) (by rw [h.krl]; decide))
  have hs' : ∀ p q, c.F p = some q → K' q = 4 ∧ Blk w' q 96 (bs (s.slots p)) := fun p q hq => by
    have h1 := h.hs p q hq
    exact ⟨by rw [old2 q (by rw [h1.1]; decide)]; exact h1.1, (blk q (by rw [h1.1]; decide) (by rw [h1.1]; decide)).trans h1.2⟩
  have hl' : ∀ m x, c.L m = some x → ∃ l, s.lies m = some l ∧ Row6 w' K' x.1 l x.2 := fun m x hx => by
    obtain ⟨l, h1, h2⟩ := h.hl m x hx
    exact ⟨l, h1, row h2⟩
  have tr' := own_keep (w' := w') h.tr fun k hk => by have h5 := h.kt k hk; exact blk k (by omega) (by omega)
  have kt' : ∀ k, c.vt.ownBlock = some k → K' k = 5 := fun k hk => by have h5 := h.kt k hk; rw [old2 k (by omega)]; exact h5
  have dom' : ∀ k, K' k ≠ 0 → k < w'.heap.size := fun k hk => by
    rw [hsz]
    by_cases e : A.map (·.block) = some k
    · cases hAA : A with
      | none => rw [hAA] at e; cases e
      | some a => rw [hAA] at e; injection e with e; have e : a.block = k := e; have := (hA a hAA).2; omega
    · rw [hK'] at hk
      have hk : (if A.map (·.block) = some k then 6 else K k) ≠ 0 := hk
      rw [if_neg e] at hk
      exact Nat.lt_of_lt_of_le (h.dom k hk) hb.size
  rcases hi with rfl | rfl
  · exact { obj := ho1, kg := kg', krs := krs', krl := krl', ms := ms', len := h.len, hs := hs', h0 := h.h0, inj := h.inj, ml := ml', hl := hl', hn := h.hn, q0 := hn6, q1 := row h.q1, tr := tr', kt := kt', th := fun x hx => row (h.th x hx), tv := h.tv, dom := dom', num := h.num }
  · exact { obj := ho1, kg := kg', krs := krs', krl := krl', ms := ms', len := h.len, hs := hs', h0 := h.h0, inj := h.inj, ml := ml', hl := hl', hn := h.hn, q0 := row h.q0, q1 := hn6, tr := tr', kt := kt', th := fun x hx => row (h.th x hx), tv := h.tv, dom := dom', num := h.num }
set_option maxRecDepth 100000 in
set_option maxHeartbeats 4000000 in
theorem seal_calls (h0 : WdAt w g K c s) (hf : Few s) (i : Int) (AB : Option Addr) (n cap : Nat) (bb : List UInt8) (hr : Rc w AB (bs bb)) (hA : ∀ ad, AB = some ad → bb ≠ [] → K ad.block = 0) (e : n = bb.length) (hcap : n ≤ cap) (hn : bb.length ≤ 1099511627776) :
    Calls Try.prog 21 #[.pointer (some ⟨g, 0, none⟩), .int .i64 i, .slice AB n cap] w (RetD g K (sealP s i bb) (sealR s i bb) w) := by
  have HW0 := Hd.mk h0
  cases ht : sealedP s i
  · have H1 : Hd (sealP s i bb = s ∧ sealR s i bb = false) := ⟨by unfold sealP sealR; rw [ht]; exact ⟨rfl, rfl⟩⟩
    have HT := Hd.mk ht
    clear h0 hf ht hr hA e hn hcap
    go_enter Try.func21, Try.ntmps21
    go_wp2_with (go_at_call 39; refine (sealed_calls HW0.out i).mono ?_; rw [HT.out]; rintro e w1 ⟨rfl, hw⟩; obtain rfl := hw.symm)
    go_ret
    rw [H1.out.1, H1.out.2]
    exact ⟨rfl, K, c, HW0.out, Stp.refl _ _, fun _ _ => rfl⟩
  · have HT := Hd.mk ht
    have HI := Hd.mk (sealed_is ht).2
    have HTR := Hd.mk hf.trace
    have HR := Hd.mk hr
    have HAF := Hd.mk hA
    have HN := Hd.mk e
    have HNB := Hd.mk hn
    have hpw := h0.num.2.2.2.1
    obtain ⟨kN, hk1, hk2⟩ : ∃ kN : Nat, takesK s bb.length = (kN : Int) ∧ kN ≤ bb.length := by
      unfold takesK
      by_cases ha : s.armed = true
      · rw [if_pos ha]; exact ⟨(min (bb.length : Int) s.power).toNat, by omega, by omega⟩
      · rw [if_neg ha]; exact ⟨bb.length, rfl, Nat.le_refl _⟩
    have HTK : Hd (takesK (noteP s 4 i 0 bb) n = (kN : Int)) := ⟨by rw [e]; exact hk1⟩
    obtain ⟨old, hold⟩ : ∃ old, sealOf s i = old := ⟨_, rfl⟩
    have HOLD : Hd (old.length ≤ 1099511627776) := ⟨by rw [← hold]; unfold sealOf; split; exact hf.s0; exact hf.s1⟩
    have H1 : Hd (sealP s i bb = sealS (takesP (noteP s 4 i 0 bb) bb.length) i (tornB old bb kN) ∧ sealR s i bb = !(takesP (noteP s 4 i 0 bb) bb.length).dead) := ⟨by unfold sealP sealR; rw [ht, hk1, hold]; exact ⟨rfl, rfl⟩⟩
    obtain ⟨s5, hs5⟩ : ∃ s5, takesP (noteP s 4 i 0 bb) bb.length = s5 := ⟨_, rfl⟩
    have HS5 : Hd (takesP (noteP s 4 i 0 bb) n = s5) := ⟨by rw [e]; exact hs5⟩
    have HSO : Hd (sealOf s5 i = old) := ⟨by rw [← hs5, ← hold]; unfold takesP; split <;> rfl⟩
    rw [hs5] at H1
    have HKN : Hd (kN ≤ bb.length) := ⟨hk2⟩
    have hkc : kN ≤ cap := by omega
    have hkci : (kN : Int) ≤ (cap : Int) := by omega
    have hcut := cut_high (P := Try.prog) 22 5 Try.underlying22 info_u8 AB n cap kN hkc
    by_cases hkb : kN < bb.length
    · by_cases hko : kN < old.length
      · have hki : (kN : Int) < (n : Int) := by omega
        have hkoi : (kN : Int) < (old.length : Int) := by omega
        have ht : tornB old bb kN = bb.take kN ++ old.drop kN := by unfold tornB; rw [if_pos hkb]
        rw [ht] at H1
        clear h0 hf ht hr hA e hn hcap hpw hk1 hk2 hold hs5 hkb
        have T1 : Hd True := ⟨trivial⟩
        go_enter Try.func21, Try.ntmps21
        go_wp2_with (first
          | (go_at_call 39; refine (sealed_calls HW0.out i).mono ?_; rw [HT.out]; rintro e w1 ⟨rfl, hw⟩; obtain rfl := hw.symm)
          | (go_at_call 34; refine (note_calls HW0.out 4 i 0 AB n cap bb HR.out (fun ad e hb => by rw [HAF.out ad e hb]; decide) HN.out HNB.out (by rw [T_len HW0.out]; exact HTR.out)).mono ?_
             rintro e w3 ⟨rfl, K3, v3, x3, hw3, hs3, hk3⟩
             have HW3 := Hd.mk hw3; have HS3 := Hd.mk hs3; have HK3 := Hd.mk hk3
             clear hw3 hs3 hk3)
          | (go_at_call 37; refine (takes_calls HW3.out n (by omega) (by have := HNB.out; have := HN.out; omega)).mono ?_
             rw [HTK.out]
             rintro e w5 ⟨rfl, hw5, hs5⟩
             rw [HS5.out] at hw5
             have HW5 := Hd.mk hw5; have HS5' := Hd.mk (HS3.out.trans hs5)
             have HR5 : Hd (Rc w5 AB (bs (bb.take kN))) := ⟨by unfold bs; rw [List.map_take]; exact ((HS3.out.trans hs5).rc HR.out (fun ad e hb => HAF.out ad e (bs_nil hb))).take kN⟩
             clear hw5 hs5)
          | (at_builtin; clear T1
             have hix := hcut
             refine app_rc w5.heap.size 22 5 (.int .u8 0) 1 1 (.const (.slice none 0 0)) (.tmp 23) rfl rfl Try.underlying22 info_u8 rfl (by decide) (by decide) (.slice none 0 0) 0 [] (bs (bb.take kN)) AB kN cap rfl rfl (World.ownsRow_nil _ _ _ _) HR5.out (by rw [bs_len, List.length_take]; have := HKN.out; omega) bs_one (Nat.le_refl _) (by have := HKN.out; have := HNB.out; omega) kN (bs (bb.take kN)) (by omega) (by simp) ?_
             intro v6 w6 ho hg hat
             obtain ⟨A6, c6, rfl, _, hr6, hn6⟩ := own_rc ho
             have HO6 := Hd.mk ho
             have hb6 := below_nil hg
             have HB6 := Hd.mk hb6
             obtain ⟨AS, cs, hi6, hc6, hrow⟩ := seal_at (HW5.out.below hb6) i HI.out
             rw [HSO.out] at hc6 hrow
             have f6 := (HW5.out.below hb6).obj.frz (2 + i.toNat)
             have HRS := Hd.mk hrow
             obtain ⟨AT, hcl, hclr, _⟩ := cut_low (P := Try.prog) 22 5 Try.underlying22 info_u8 AS old.length cs kN (by omega) hrow.cap
             have HLR := Hd.mk (hclr _ _ (bs_len old) hrow.rc)
             clear ho hg hat hr6 hn6 hb6 hrow)
          | (at_builtin
             refine app_rc w5.heap.size 22 5 (.int .u8 0) 1 1 (.tmp 40) (.tmp 48) rfl rfl Try.underlying22 info_u8 rfl (by decide) (by decide) (.slice A6 kN c6) kN (bs (bb.take kN)) (bs (old.drop kN)) AT (old.length - kN) (cs - kN) rfl rfl HO6.out (by unfold bs; rw [List.map_drop]; exact HLR.out) (by rw [bs_len, List.length_drop]; omega) bs_one HB6.out.size (by have := HKN.out; have := HNB.out; have := HOLD.out; omega) (kN + (old.length - kN)) (bs (bb.take kN ++ old.drop kN)) rfl (by unfold bs; rw [List.map_append]) ?_
             intro v7 w7 ho hg hat
             have hb7 : Below w5.heap.size w5 w7 := below_lift HB6.out HB6.out.size hg (fun k hk => (own_lt HO6.out k hk).1)
             have HB7 := Hd.mk hb7
             obtain ⟨A7, c7, rfl, _, _, _⟩ := own_rc ho
             obtain ⟨_, _, hi7, hc7, _⟩ := seal_at (HW5.out.below hb7) i HI.out
             have f7 := (HW5.out.below hb7).obj.frz (2 + i.toNat)
             obtain ⟨K9, c9, hw9, hs9, hk9⟩ := seal_end HW5.out (HB7).out HI.out (b := bb.take kN ++ old.drop kN) (by rw [show (bb.take kN ++ old.drop kN).length = kN + (old.length - kN) by rw [List.length_append, List.length_take, List.length_drop]; have := HKN.out; omega]; exact ho)
             have HS9 := Hd.mk hs9; have HK9 := Hd.mk hk9
             have d9 := hw9.obj.cell (i := 9) rfl
             rw [sealS_dead] at d9
             have HW9 := Hd.mk hw9
             clear hw9 hs9 hk9
             clear ho hg hat hb7))
        go_ret
        rw [H1.out.1, H1.out.2]
        exact ⟨rfl, K9, c9, HW9.out, HS5'.out.trans HS9.out, fun k h0 => by rw [HK9.out k (by rw [HK3.out k h0]; exact h0), HK3.out k h0]⟩
      · have hki : (kN : Int) < (n : Int) := by omega
        have hkoi : ¬ (kN : Int) < (old.length : Int) := by omega
        have ht : tornB old bb kN = bb.take kN := by unfold tornB; rw [if_pos hkb, List.drop_of_length_le (by omega), List.append_nil]
        rw [ht] at H1
        clear h0 hf ht hr hA e hn hcap hpw hk1 hk2 hold hs5 hkb
        have T1 : Hd True := ⟨trivial⟩
        go_enter Try.func21, Try.ntmps21
        go_wp2_with (first
          | (go_at_call 39; refine (sealed_calls HW0.out i).mono ?_; rw [HT.out]; rintro e w1 ⟨rfl, hw⟩; obtain rfl := hw.symm)
          | (go_at_call 34; refine (note_calls HW0.out 4 i 0 AB n cap bb HR.out (fun ad e hb => by rw [HAF.out ad e hb]; decide) HN.out HNB.out (by rw [T_len HW0.out]; exact HTR.out)).mono ?_
             rintro e w3 ⟨rfl, K3, v3, x3, hw3, hs3, hk3⟩
             have HW3 := Hd.mk hw3; have HS3 := Hd.mk hs3; have HK3 := Hd.mk hk3
             clear hw3 hs3 hk3)
          | (go_at_call 37; refine (takes_calls HW3.out n (by omega) (by have := HNB.out; have := HN.out; omega)).mono ?_
             rw [HTK.out]
             rintro e w5 ⟨rfl, hw5, hs5⟩
             rw [HS5.out] at hw5
             have HW5 := Hd.mk hw5; have HS5' := Hd.mk (HS3.out.trans hs5)
             have HR5 : Hd (Rc w5 AB (bs (bb.take kN))) := ⟨by unfold bs; rw [List.map_take]; exact ((HS3.out.trans hs5).rc HR.out (fun ad e hb => HAF.out ad e (bs_nil hb))).take kN⟩
             clear hw5 hs5)
          | (at_builtin; clear T1
             have hix := hcut
             refine app_rc w5.heap.size 22 5 (.int .u8 0) 1 1 (.const (.slice none 0 0)) (.tmp 23) rfl rfl Try.underlying22 info_u8 rfl (by decide) (by decide) (.slice none 0 0) 0 [] (bs (bb.take kN)) AB kN cap rfl rfl (World.ownsRow_nil _ _ _ _) HR5.out (by rw [bs_len, List.length_take]; have := HKN.out; omega) bs_one (Nat.le_refl _) (by have := HKN.out; have := HNB.out; omega) kN (bs (bb.take kN)) (by omega) (by simp) ?_
             intro v6 w6 ho hg hat
             obtain ⟨A6, c6, rfl, _, hr6, hn6⟩ := own_rc ho
             have HO6 := Hd.mk ho
             have hb6 := below_nil hg
             have HB6 := Hd.mk hb6
             obtain ⟨AS, cs, hi6, hc6, hrow⟩ := seal_at (HW5.out.below hb6) i HI.out
             rw [HSO.out] at hc6 hrow
             have f6 := (HW5.out.below hb6).obj.frz (2 + i.toNat)
             have HRS := Hd.mk hrow
             obtain ⟨K9, c9, hw9, hs9, hk9⟩ := seal_end HW5.out (HB6).out HI.out (b := bb.take kN) (by rw [show (bb.take kN).length = kN by rw [List.length_take]; have := HKN.out; omega]; exact ho)
             have HS9 := Hd.mk hs9; have HK9 := Hd.mk hk9
             have d9 := hw9.obj.cell (i := 9) rfl
             rw [sealS_dead] at d9
             have HW9 := Hd.mk hw9
             clear hw9 hs9 hk9
             clear ho hg hat hr6 hn6 hb6 hrow))
        go_ret
        rw [H1.out.1, H1.out.2]
        exact ⟨rfl, K9, c9, HW9.out, HS5'.out.trans HS9.out, fun k h0 => by rw [HK9.out k (by rw [HK3.out k h0]; exact h0), HK3.out k h0]⟩
    · have hki : ¬ (kN : Int) < (n : Int) := by omega
      have ht : tornB old bb kN = bb.take kN := by unfold tornB; rw [if_neg hkb, List.append_nil]
      rw [ht] at H1
      clear h0 hf ht hr hA e hn hcap hpw hk1 hk2 hold hs5 hkb
      have T1 : Hd True := ⟨trivial⟩
      go_enter Try.func21, Try.ntmps21
      go_wp2_with (first
        | (go_at_call 39; refine (sealed_calls HW0.out i).mono ?_; rw [HT.out]; rintro e w1 ⟨rfl, hw⟩; obtain rfl := hw.symm)
        | (go_at_call 34; refine (note_calls HW0.out 4 i 0 AB n cap bb HR.out (fun ad e hb => by rw [HAF.out ad e hb]; decide) HN.out HNB.out (by rw [T_len HW0.out]; exact HTR.out)).mono ?_
           rintro e w3 ⟨rfl, K3, v3, x3, hw3, hs3, hk3⟩
           have HW3 := Hd.mk hw3; have HS3 := Hd.mk hs3; have HK3 := Hd.mk hk3
           clear hw3 hs3 hk3)
        | (go_at_call 37; refine (takes_calls HW3.out n (by omega) (by have := HNB.out; have := HN.out; omega)).mono ?_
           rw [HTK.out]
           rintro e w5 ⟨rfl, hw5, hs5⟩
           rw [HS5.out] at hw5
           have HW5 := Hd.mk hw5; have HS5' := Hd.mk (HS3.out.trans hs5)
           have HR5 : Hd (Rc w5 AB (bs (bb.take kN))) := ⟨by unfold bs; rw [List.map_take]; exact ((HS3.out.trans hs5).rc HR.out (fun ad e hb => HAF.out ad e (bs_nil hb))).take kN⟩
           clear hw5 hs5)
        | (at_builtin; clear T1
           have hix := hcut
           refine app_rc w5.heap.size 22 5 (.int .u8 0) 1 1 (.const (.slice none 0 0)) (.tmp 23) rfl rfl Try.underlying22 info_u8 rfl (by decide) (by decide) (.slice none 0 0) 0 [] (bs (bb.take kN)) AB kN cap rfl rfl (World.ownsRow_nil _ _ _ _) HR5.out (by rw [bs_len, List.length_take]; have := HKN.out; omega) bs_one (Nat.le_refl _) (by have := HKN.out; have := HNB.out; omega) kN (bs (bb.take kN)) (by omega) (by simp) ?_
           intro v6 w6 ho hg hat
           obtain ⟨A6, c6, rfl, _, hr6, hn6⟩ := own_rc ho
           have HO6 := Hd.mk ho
           have hb6 := below_nil hg
           have HB6 := Hd.mk hb6
           obtain ⟨AS, cs, hi6, hc6, hrow⟩ := seal_at (HW5.out.below hb6) i HI.out
           rw [HSO.out] at hc6 hrow
           have f6 := (HW5.out.below hb6).obj.frz (2 + i.toNat)
           have HRS := Hd.mk hrow
           obtain ⟨K9, c9, hw9, hs9, hk9⟩ := seal_end HW5.out (HB6).out HI.out (b := bb.take kN) (by rw [show (bb.take kN).length = kN by rw [List.length_take]; have := HKN.out; omega]; exact ho)
           have HS9 := Hd.mk hs9; have HK9 := Hd.mk hk9
           have d9 := hw9.obj.cell (i := 9) rfl
           rw [sealS_dead] at d9
           have HW9 := Hd.mk hw9
           clear hw9 hs9 hk9
           clear ho hg hat hr6 hn6 hb6 hrow))
      go_ret
      rw [H1.out.1, H1.out.2]
      exact ⟨rfl, K9, c9, HW9.out, HS5'.out.trans HS9.out, fun k h0 => by rw [HK9.out k (by rw [HK3.out k h0]; exact h0), HK3.out k h0]⟩
theorem wo_seal {w0 : World} (h : Wo w0 w g K s) (hf : Few s) (i : Int) (AB : Option Addr) (n cap : Nat) (bb : List UInt8) (hr : Fr w K AB bb) (e : n = bb.length) (hcap : n ≤ cap) (hn : bb.length ≤ 1099511627776) :
    Calls Try.prog 21 #[.pointer (some ⟨g, 0, none⟩), .int .i64 i, .slice AB n cap] w (RetDo w0 g K (sealP s i bb) (sealR s i bb) w) := by
  obtain ⟨c, hc⟩ := h.ex
  refine (seal_calls hc hf i AB n cap bb hr.rc (fun ad e hb => (hr.fr ad e hb).1) e hcap hn).mono ?_
  rintro e w' ⟨rfl, K', c', h1, h2, _⟩
  exact ⟨rfl, K', h.step h1 h2, h2⟩
end
end Go.Proofs.Ytffhncpgknkkaaa
