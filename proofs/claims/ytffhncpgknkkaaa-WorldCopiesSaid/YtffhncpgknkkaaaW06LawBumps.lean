/- W06LawBumps: the law WorldBumps. -/
import Derived.Test.YtffhncpgknkkaaaW06Did
namespace Go.Proofs.Ytffhncpgknkkaaa
open Go.RowKit Go.Sac
set_option linter.unusedVariables false
set_option linter.unusedSimpArgs false
theorem do_info : (Try.prog.info? 44).map (·.size) = some 5 := by kernel_rfl
/-- what grows by one a step at the most -/
structure Lite (s : Wd) (q : Nat) : Prop where
  reads : s.reads ≤ (q : Int)
  trace : s.trace.length ≤ q
  lies : ∀ n l, s.lies n = some l → l.length ≤ 1099511627776
  s0 : s.s0.length ≤ 1099511627776
  s1 : s.s1.length ≤ 1099511627776
theorem Lite.few {s : Wd} {q : Nat} (h : Lite s q) (hq : q ≤ 1000000) : Few s := ⟨by have := h.reads; omega, Nat.le_trans h.trace hq, h.lies, h.s0, h.s1⟩
theorem Lite.up {s : Wd} {q : Nat} (h : Lite s q) : Lite s (q + 1) := ⟨by have := h.reads; push_cast; omega, Nat.le_succ_of_le h.trace, h.lies, h.s0, h.s1⟩
theorem Lite.note {s : Wd} {q : Nat} (h : Lite s q) (k a t : Int) (b : List UInt8) : Lite (noteP s k a t b) (q + 1) :=
  ⟨by have := h.reads; show s.reads ≤ _; push_cast; omega, by show (s.trace ++ [_]).length ≤ _; rw [List.length_append]; exact Nat.succ_le_succ h.trace, h.lies, h.s0, h.s1⟩
theorem Lite.takes {s : Wd} {q : Nat} (h : Lite s q) (n : Int) : Lite (takesP s n) q := by
  unfold takesP; split
  · exact ⟨h.reads, h.trace, h.lies, h.s0, h.s1⟩
  · exact h
theorem Lite.told {s : Wd} {q : Nat} (h : Lite s q) (k a t : Int) (b : List UInt8) : Lite (noteP (toldP s) k a t b) (q + 1) :=
  ⟨by have := h.reads; show s.reads + 1 ≤ _; push_cast; omega, by show (s.trace ++ [_]).length ≤ _; rw [List.length_append]; exact Nat.succ_le_succ h.trace, h.lies, h.s0, h.s1⟩
theorem Lite.step {s : Wd} {q : Nat} (h : Lite s q) (k a t n : Int) (b : List UInt8) (hb : b.length ≤ 1099511627776) (hp : 0 ≤ s.power) : Lite (doP s k a t n b) (q + 1) := by
  unfold doP
  split
  · unfold readP; split
    · exact h.told _ _ _ _
    · exact h.up
  split
  · unfold writeP; split
    · have := (h.note 2 a t b).takes 272
      exact ⟨this.reads, this.trace, this.lies, this.s0, this.s1⟩
    · exact h.up
  split
  · unfold lookP; split
    · exact h.told _ _ _ _
    · exact h.up
  split
  · unfold sealP; split
    · have h2 := (h.note 4 a 0 b).takes b.length
      have hk : (takesK s b.length).toNat ≤ b.length := by unfold takesK; split <;> omega
      have hl : (sealOf s a).length ≤ 1099511627776 := by unfold sealOf; split; exact h.s0; exact h.s1
      have h3 := torn_len (sealOf s a) b (takesK s b.length).toNat hl hb hk
      unfold sealS
      split
      · exact ⟨h2.reads, h2.trace, h2.lies, h3, h2.s1⟩
      · exact ⟨h2.reads, h2.trace, h2.lies, h2.s0, h3⟩
    · exact h.up
  split
  · unfold bumpP; split
    · exact h.up
    split
    · exact h.up
    split
    · exact (h.takes 1).up
    · have h2 : Lite (upP s) q := by
        have h3 := h.takes 1
        exact ⟨h3.reads, h3.trace, h3.lies, h3.s0, h3.s1⟩
      exact h2.note _ _ _ _
  split
  · refine ⟨h.up.reads, h.up.trace, fun m l e => ?_, h.s0, h.s1⟩
    have e : (if m = n then some b else s.lies m) = some l := e
    by_cases hm : m = n
    · rw [if_pos hm] at e; cases e; exact hb
    · rw [if_neg hm] at e; exact h.lies m l e
  split
  · unfold armP; split
    · exact h.up
    · exact ⟨h.up.reads, h.up.trace, h.lies, h.s0, h.s1⟩
  split
  · exact ⟨h.up.reads, h.up.trace, h.lies, h.s0, h.s1⟩
  · exact h.up
theorem takes_cnt (s : Wd) (n : Int) : (takesP s n).counter = s.counter := by unfold takesP; split <;> rfl
/-- only a bump counts -/
theorem cnt_step (s : Wd) (k a t n : Int) (b : List UInt8) : (doP s k a t n b).counter = s.counter + (if k = 5 ∧ bumpR s = true then 1 else 0) := by
  unfold doP
  split
  · rename_i h; subst h; rw [if_neg (fun h => by have := h.1; omega)]; unfold readP; split <;> simp [noteP, toldP]
  split
  · rename_i h; subst h; rw [if_neg (fun h => by have := h.1; omega)]; unfold writeP; split
    · show (takesP _ _).counter = _; rw [takes_cnt]; simp [noteP]
    · simp
  split
  · rename_i h; subst h; rw [if_neg (fun h => by have := h.1; omega)]; unfold lookP; split <;> simp [noteP, toldP]
  split
  · rename_i h; subst h; rw [if_neg (fun h => by have := h.1; omega)]; unfold sealP; split
    · unfold sealS; split
      · show (takesP _ _).counter = _; rw [takes_cnt]; simp [noteP]
      · show (takesP _ _).counter = _; rw [takes_cnt]; simp [noteP]
    · simp
  split
  · rename_i h; subst h
    unfold bumpP bumpR
    by_cases hd : s.dead = true
    · rw [if_pos hd, hd]; simp
    · have hd2 : s.dead = false := by simpa using hd
      rw [if_neg hd, hd2]
      by_cases hm : s.counter = 18446744073709551615
      · rw [if_pos hm]; simp [hm]
      · rw [if_neg hm]
        by_cases hk : takesK s 1 = 0
        · rw [if_pos hk, takes_cnt]; simp [hk]
        · rw [if_neg hk]; simp [hk, hm, noteP, upP]
  have h5 : ¬ (k = 5 ∧ bumpR s = true) := fun h => by have := h.1; contradiction
  rw [if_neg h5]
  split
  · simp [lieP]
  split
  · unfold armP; split <;> simp
  split
  · simp [restartP]
  · simp
theorem bump_alive (s : Wd) (a t n : Int) (b : List UInt8) (hp : 0 ≤ s.power) (h : bumpR s = true) : (doP s 5 a t n b).dead = false ∧ s.counter ≠ 18446744073709551615 := by
  unfold bumpR at h
  simp only [Bool.and_eq_true, Bool.not_eq_true', decide_eq_false_iff_not] at h
  refine ⟨?_, h.2.1⟩
  show (bumpP s).dead = false
  unfold bumpP
  rw [if_neg (by rw [h.1]; decide), if_neg h.2.1, if_neg h.2.2]
  show (takesP s 1).dead = false
  have hk := h.2.2
  unfold takesP
  by_cases ha : s.armed = true
  · rw [if_pos ha]
    show decide (takesK s 1 < 1) = false
    have : takesK s 1 = min 1 s.power := by unfold takesK; rw [if_pos ha]
    rw [this] at hk ⊢
    exact decide_eq_false (by omega)
  · rw [if_neg ha]; exact h.1
theorem Wo.num {w0 w : World} {g : Nat} {K : Nat → Nat} {s : Wd} (h : Wo w0 w g K s) : 0 ≤ s.counter ∧ s.counter < 18446744073709551616 ∧ 0 ≤ s.power := by
  obtain ⟨c, hc⟩ := h.ex
  exact ⟨hc.num.1, hc.num.2.1, hc.num.2.2.2.1⟩
set_option maxRecDepth 100000 in
set_option maxHeartbeats 8000000 in
theorem law_bumps (n : Int) (A : Option Addr) (m ca : Nat) (l : List Dd) (w : World) (h0 : 0 ≤ n ∧ n ≤ 18446744073709551615) (hr : Rc w A (dds l)) (hH : HeldD w l) (e1 : m = l.length) (hm : m ≤ 140737488355328) (hl : ∀ x ∈ l, x.b.length ≤ 140737488355328) :
    Calls Try.prog 7 #[.int .u64 n, .slice A m ca] w (RetT w) := by
  have HR := Hd.mk hr
  have HH := Hd.mk hH
  have E1 := Hd.mk e1
  have HL := Hd.mk hl
  have HN := Hd.mk h0
  clear hr hH e1 hl
  obtain ⟨sm, hsm⟩ : ∃ sm, (decide (m ≤ 40) && decide (longD l ≤ 3000)) = sm := ⟨_, rfl⟩
  have HSM := Hd.mk hsm
  cases sm
  · clear hsm
    go_enter Try.func7, Try.ntmps7
    go_wp2_with (first
      | (go_at_call 23; refine (small_calls A m ca l _ HR.out HH.out E1.out HL.out).mono ?_; rw [HSM.out]; rintro e w1 ⟨rfl, hw⟩; obtain rfl := hw.symm)
      | (go_at_call 10; refine (known_calls _).mono ?_; rintro e w1 ⟨rfl, hb⟩))
    go_ret
    exact ⟨rfl, hb⟩
  · simp only [Bool.and_eq_true, decide_eq_true_eq] at hsm
    have H40 : Hd (m ≤ 40 ∧ longD l ≤ 3000) := ⟨hsm⟩
    clear hsm
    go_enter Try.func7, Try.ntmps7
    go_wp2_with (first
      | (go_at_call 23; refine (small_calls A m ca l _ HR.out HH.out E1.out HL.out).mono ?_; rw [HSM.out]; rintro e w1 ⟨rfl, hw⟩; obtain rfl := hw.symm)
      | (go_at_call 11; refine (wo_new (Below.refl _ _) 3).mono ?_; rintro e w1 ⟨g, K1, rfl, h, _⟩; have W1 := Hd.mk h; clear h)
      | (go_at_call 24; refine (wo_set W1.out n HN.out.1 (by have := HN.out; omega)).mono ?_; rintro e w2 ⟨rfl, K2, h, _⟩; have W2 := Hd.mk h; clear h W1))
    have L2 : Hd (Lite (setP (newP 3) n) 0) := ⟨⟨Int.le_refl _, Nat.le_refl _, (fun _ _ h => nomatch h), Nat.zero_le _, Nat.zero_le _⟩⟩
    go_loopw [6, 7, 8, 9, 10, 11] (fun lv iv _ _ _ _ wr => ∃ q : Nat, iv = .int .i64 (q : Int) ∧ q ≤ m ∧ ∃ (K : Nat → Nat) (s : Wd), Hd (Wo w wr g K s) ∧ Hd (Lite s q) ∧ lv = .int .u64 s.counter) (fun _ iv _ _ _ _ _ => m - (intOf iv).toNat)
    case atStart => exact ⟨0, rfl, Nat.zero_le _, _, _, W2, L2, rfl⟩
    case round =>
      clear W2 L2
      obtain ⟨q, rfl, hq, K, s, W, L, rfl⟩ := hrel
      by_cases hlt : q < m
      · have hqi : (q : Int) < (m : Int) := by omega
        have hql : q < l.length := by rw [← E1.out]; exact hlt
        obtain ⟨bb, off, rfl, hbb, hra⟩ := rcK_form dds_len (by decide) HR.out (by omega)
        obtain ⟨x, hx⟩ : ∃ x, l[q] = x := ⟨_, rfl⟩
        have hmem : x ∈ l := by rw [← hx]; exact List.getElem_mem hql
        have hra2 := hra q hql
        rw [hx] at hra2
        have HXC : Hd (∀ W, Below w.heap.size w W → W.rangeAt bb (off + q * 5) [.int .i64 x.kind, .int .i64 x.at_, .int .i64 x.slot, .int .i64 x.n, .slice x.A x.b.length x.c]) := ⟨hra2⟩
        have hk0 : wr.cell? ⟨bb, off + q * 5, none⟩ = some (.int .i64 x.kind) := hra2 wr W.out.bel 0 _ rfl
        have HFX : Hd (Rc w x.A (bs x.b) ∧ x.b.length ≤ x.c) := ⟨HH.out x hmem⟩
        have HBX : Hd (x.b.length ≤ 1099511627776) := ⟨by have := longD_le l x hmem; have := H40.out; omega⟩
        have hnum := W.out.num
        clear hra hra2 hx hmem
        by_cases h9 : x.kind = 9
        · rw [h9] at hk0
          clear hnum h9
          go_wp2_with fail
          go_roundw
          case rel => exact ⟨q + 1, by go_num, by omega, K, s, W, ⟨L.out.up⟩, rfl⟩
          case measure => simp [intOf]; omega
        · have HS9 := Hd.mk h9
          have e9 : (x.kind == 9) = false := by rw [beq_eq_false_iff_ne]; exact h9
          have HL2 : Hd (Lite (doP s x.kind x.at_ x.slot x.n x.b) (q + 1)) := ⟨L.out.step _ _ _ _ _ HBX.out hnum.2.2⟩
          obtain ⟨s2, hs2⟩ : ∃ s2, doP s x.kind x.at_ x.slot x.n x.b = s2 := ⟨_, rfl⟩
          have HS2 := Hd.mk hs2
          rw [hs2] at HL2
          have hcnt := cnt_step s x.kind x.at_ x.slot x.n x.b
          rw [hs2] at hcnt
          have hR5 : x.kind = 5 → doR s x.kind x.at_ x.slot x.b = bumpR s := fun h => by unfold doR; rw [if_neg (by omega), if_neg (by omega), if_pos h]
          have halive : x.kind = 5 → bumpR s = true → s2.dead = false ∧ s.counter ≠ 18446744073709551615 := fun h h' => by
            rw [← hs2, h]; exact bump_alive s _ _ _ _ hnum.2.2 h'
          obtain ⟨r, hrr⟩ : ∃ r, doR s x.kind x.at_ x.slot x.b = r := ⟨_, rfl⟩
          have HRR := Hd.mk hrr
          rw [hrr] at hR5
          by_cases hup : x.kind = 5 ∧ bumpR s = true
          · have e5 : x.kind = 5 := hup.1
            have er : r = true := (hR5 e5).trans hup.2
            have ed := (halive e5 hup.2).1
            have ene := (halive e5 hup.2).2
            rw [if_pos hup] at hcnt
            have HD := Hd.mk ed
            have HRT : Hd (doR s x.kind x.at_ x.slot x.b = true) := ⟨hrr.trans er⟩
            have hwr : IntKind.u64.wrap (s.counter + 1) = s.counter + 1 := by rw [IntKind.wrap_u64]; omega
            have hcp : counterP s2 = s.counter + 1 := by unfold counterP; rw [ed, if_neg (by decide)]; exact hcnt
            have HCN := Hd.mk hcnt
            have hc1 : ¬ s.counter + 1 = 0 := by omega
            have HK5 := Hd.mk e5
            rw [e5] at hk0
            clear e5
            obtain ⟨cc, hcc⟩ : ∃ cc, s.counter = cc := ⟨_, rfl⟩
            rw [hcc] at hwr hc1 hcp
            have HCP := Hd.mk hcp
            have HCC := Hd.mk hcc
            rw [hcc]
            clear hs2 hcnt hR5 halive hrr hup er ed ene hcp hnum hcc h9 e9 HRR
            have e9 : ((5 : Int) == 9) = false := by decide
            go_wp2_with (first
              | (refine wpList_ldmid rfl 44 (.tmp 37) rfl bb (off + q * 5) rfl [.int .i64 x.kind, .int .i64 x.at_, .int .i64 x.slot, .int .i64 x.n, .slice x.A x.b.length x.c] _ (HXC.out _ W.out.bel) Try.underlying44 rfl (do_info.trans rfl) ?_)
              | (go_at_call 25; refine (did_calls W.out (L.out.few (by have := H40.out; omega)) x (W.out.arg HFX.out.1) HFX.out.2 HBX.out HS9.out).mono ?_
                 rw [HRT.out, HS2.out]; rintro e w3 ⟨v3, rfl, K3, h3, _⟩; have W3 := Hd.mk h3
                 have hk3 : w3.cell? ⟨bb, off + q * 5, none⟩ = some (.int .i64 x.kind) := HXC.out w3 h3.bel 0 _ rfl
                 rw [HK5.out] at hk3; clear h3)
              | (go_at_call 19; refine (wo_counter W3.out).mono ?_; rw [HCP.out]; rintro e w4 ⟨rfl, hw⟩; obtain rfl := hw.symm)
              | (go_at_call 17; refine (wo_dead W3.out).mono ?_; rw [HD.out]; rintro e w5 ⟨rfl, hw⟩; obtain rfl := hw.symm))
            go_roundw
            case rel => exact ⟨q + 1, by go_num, by omega, K3, s2, W3, HL2, by rw [HCN.out, HCC.out]⟩
            case measure => simp [intOf]; omega
          · rw [if_neg hup, Int.add_zero] at hcnt
            have hnot : ¬ (x.kind = 5 ∧ r = true) := fun h => hup ⟨h.1, by rw [← hR5 h.1]; exact h.2⟩
            have HCN := Hd.mk hcnt
            have hcp : counterP s2 = if s2.dead = true then 0 else s.counter := by unfold counterP; rw [hcnt]
            clear hs2 hR5 halive hrr hup hcnt
            obtain ⟨cc, hcc⟩ : ∃ cc, s.counter = cc := ⟨_, rfl⟩
            rw [hcc] at hcp hnum
            have hwr : IntKind.u64.wrap cc = cc := by rw [IntKind.wrap_u64]; omega
            have HCC := Hd.mk hcc
            rw [hcc]
            clear hcc hnum
            by_cases hd : s2.dead = true
            · rw [if_pos hd] at hcp
              have HD := Hd.mk hd
              have HCP := Hd.mk hcp
              clear hd hcp hnot
              go_wp2_with (first
                | (refine wpList_ldmid rfl 44 (.tmp 37) rfl bb (off + q * 5) rfl [.int .i64 x.kind, .int .i64 x.at_, .int .i64 x.slot, .int .i64 x.n, .slice x.A x.b.length x.c] _ (HXC.out _ W.out.bel) Try.underlying44 rfl (do_info.trans rfl) ?_)
                | (go_at_call 25; refine (did_calls W.out (L.out.few (by have := H40.out; omega)) x (W.out.arg HFX.out.1) HFX.out.2 HBX.out HS9.out).mono ?_
                   rw [HRR.out, HS2.out]; rintro e w3 ⟨v3, rfl, K3, h3, _⟩; have W3 := Hd.mk h3
                   have hk3 : w3.cell? ⟨bb, off + q * 5, none⟩ = some (.int .i64 x.kind) := HXC.out w3 h3.bel 0 _ rfl
                   clear h3)
                | (go_at_call 19; refine (wo_counter W3.out).mono ?_; rw [HCP.out]; rintro e w4 ⟨rfl, hw⟩; obtain rfl := hw.symm)
                | (go_at_call 17; refine (wo_dead W3.out).mono ?_; rw [HD.out]; rintro e w5 ⟨rfl, hw⟩; obtain rfl := hw.symm))
              go_roundw
              case rel => exact ⟨q + 1, by go_num, by omega, K3, s2, W3, HL2, by rw [HCN.out, HCC.out]⟩
              case measure => simp [intOf]; omega
            · rw [if_neg hd] at hcp
              have HD : Hd (s2.dead = false) := ⟨by simpa using hd⟩
              have HCP := Hd.mk hcp
              clear hd hcp
              by_cases h5 : x.kind = 5
              · have er : r = false := by
                  cases r
                  · rfl
                  · exact absurd ⟨h5, rfl⟩ hnot
                subst er
                have HK5 := Hd.mk h5
                rw [h5] at hk0
                clear hnot h5 h9 e9
                go_wp2_with (first
                  | (refine wpList_ldmid rfl 44 (.tmp 37) rfl bb (off + q * 5) rfl [.int .i64 x.kind, .int .i64 x.at_, .int .i64 x.slot, .int .i64 x.n, .slice x.A x.b.length x.c] _ (HXC.out _ W.out.bel) Try.underlying44 rfl (do_info.trans rfl) ?_)
                  | (go_at_call 25; refine (did_calls W.out (L.out.few (by have := H40.out; omega)) x (W.out.arg HFX.out.1) HFX.out.2 HBX.out HS9.out).mono ?_
                     rw [HRR.out, HS2.out]; rintro e w3 ⟨v3, rfl, K3, h3, _⟩; have W3 := Hd.mk h3
                     have hk3 : w3.cell? ⟨bb, off + q * 5, none⟩ = some (.int .i64 x.kind) := HXC.out w3 h3.bel 0 _ rfl
                     rw [HK5.out] at hk3; clear h3)
                  | (go_at_call 19; refine (wo_counter W3.out).mono ?_; rw [HCP.out]; rintro e w4 ⟨rfl, hw⟩; obtain rfl := hw.symm)
                  | (go_at_call 17; refine (wo_dead W3.out).mono ?_; rw [HD.out]; rintro e w5 ⟨rfl, hw⟩; obtain rfl := hw.symm))
                go_roundw
                case rel => exact ⟨q + 1, by go_num, by omega, K3, s2, W3, HL2, by rw [HCN.out, HCC.out]⟩
                case measure => simp [intOf]; omega
              · have e5 : (x.kind == 5) = false := by rw [beq_eq_false_iff_ne]; exact h5
                clear hnot
                go_wp2_with (first
                  | (refine wpList_ldmid rfl 44 (.tmp 37) rfl bb (off + q * 5) rfl [.int .i64 x.kind, .int .i64 x.at_, .int .i64 x.slot, .int .i64 x.n, .slice x.A x.b.length x.c] _ (HXC.out _ W.out.bel) Try.underlying44 rfl (do_info.trans rfl) ?_)
                  | (go_at_call 25; refine (did_calls W.out (L.out.few (by have := H40.out; omega)) x (W.out.arg HFX.out.1) HFX.out.2 HBX.out HS9.out).mono ?_
                     rw [HRR.out, HS2.out]; rintro e w3 ⟨v3, rfl, K3, h3, _⟩; have W3 := Hd.mk h3
                     have hk3 : w3.cell? ⟨bb, off + q * 5, none⟩ = some (.int .i64 x.kind) := HXC.out w3 h3.bel 0 _ rfl
                     clear h3)
                  | (go_at_call 19; refine (wo_counter W3.out).mono ?_; rw [HCP.out]; rintro e w4 ⟨rfl, hw⟩; obtain rfl := hw.symm)
                  | (go_at_call 17; refine (wo_dead W3.out).mono ?_; rw [HD.out]; rintro e w5 ⟨rfl, hw⟩; obtain rfl := hw.symm))
                go_roundw
                case rel => exact ⟨q + 1, by go_num, by omega, K3, s2, W3, HL2, by rw [HCN.out, HCC.out]⟩
                case measure => simp [intOf]; omega
      · obtain rfl : q = m := by omega
        go_wp2_with (go_at_call 10; refine (known_calls _).mono ?_; rintro e w9 ⟨rfl, hb⟩)
        go_ret
        exact ⟨rfl, below_then W.out.bel W.out.bel.size hb⟩
theorem row_bumps (n : Int) (A : Option Addr) (ca : Nat) (l : List Dd) (w : World) (h0 : 0 ≤ n ∧ n ≤ 18446744073709551615) (hr : Rc w A (dds l)) (hc : l.length ≤ ca) (hm : l.length ≤ 140737488355328) (hH : HeldD w l ∧ ∀ x ∈ l, x.b.length ≤ 140737488355328) :
    Calls Try.prog 7 #[.int .u64 n, .slice A l.length ca] w (RetT w) :=
  law_bumps n A _ ca l w h0 hr hH.1 rfl hm hH.2
end Go.Proofs.Ytffhncpgknkkaaa
