/- W06LawTraces: the law WorldTraces. -/
import Derived.BigQuiet
import Derived.Test.YtffhncpgknkkaaaW06Did2
import Derived.Test.YtffhncpgknkkaaaR00Same
namespace Go.Proofs.Ytffhncpgknkkaaa
open Go.RowKit Go.Sac
set_option linter.unusedVariables false
set_option linter.unusedSimpArgs false
theorem trs_take (T : List Tr) (n : Nat) : trs (T.take n) = (trs T).take (n * 4) := by
  unfold trs
  have e : rowK Tr.cells T = rowK Tr.cells (T.take n) ++ rowK Tr.cells (T.drop n) := by rw [← rowK_app, List.take_append_drop]
  by_cases h : n ≤ T.length
  · rw [e, List.take_left' (by rw [rowK_len trs_four, List.length_take]; omega)]
  · rw [List.take_of_length_le (by omega), List.take_of_length_le (by rw [rowK_len trs_four]; omega)]
theorem add_small {s : Wd} {q : Nat} (L : Lite s q) (hl : ∀ p, (s.slots p).length = 272) (k a t : Int) (b : List UInt8) (hb : b.length ≤ 1099511627776) : ∀ x ∈ addT s k a t b, x.2.2.2.length ≤ 1099511627776 := by
  have hs : ∀ z : List UInt8, z.length ≤ 1099511627776 → (toldB s z).length ≤ 1099511627776 := fun z hz => by
    unfold toldB
    cases h : s.lies s.reads with
    | none => exact hz
    | some y => exact L.lies _ y h
  have hr : (readB s a t).length ≤ 1099511627776 := by unfold readB; split; exact hs _ (by rw [hl]; decide); exact Nat.zero_le _
  have hk : (lookB s a).length ≤ 1099511627776 := by
    unfold lookB; split
    · exact hs _ (by unfold sealOf; split; exact L.s0; exact L.s1)
    · exact Nat.zero_le _
  intro x hx
  unfold addT at hx
  repeat' split at hx
  all_goals first | (simp at hx; done) | (simp at hx; subst hx; first | exact hr | exact hb | exact hk | exact Nat.zero_le _)
theorem Wo.len {w0 w : World} {g : Nat} {K : Nat → Nat} {s : Wd} (h : Wo w0 w g K s) : (∀ p, (s.slots p).length = 272) ∧ ∀ k, w.heap.size ≤ k → K k = 0 := by
  obtain ⟨c, hc⟩ := h.ex
  refine ⟨hc.len, fun k hk => ?_⟩
  by_cases e : K k = 0
  · exact e
  · have := hc.dom k e; omega
theorem wo_trace {w0 w : World} {g : Nat} {K : Nat → Nat} {s : Wd} (h : Wo w0 w g K s) (hT : s.trace.length ≤ 1000000) (hl : ∀ x ∈ s.trace, x.2.2.2.length ≤ 1099511627776) :
    Calls Try.prog 26 #[.pointer (some ⟨g, 0, none⟩)] w (RetTr s.trace w) := by
  obtain ⟨c, hc⟩ := h.ex
  exact trace_calls hc hT hl
/-- a row of its own outlives what is done to the world -/
theorem tr_outlives {w w' : World} {K K' : Nat → Nat} {A : Option Addr} {T : List Tr} {B : Nat} (hs : Stp K K' w w') (h0 : ∀ k, B ≤ k → K k = 0) (hr : Rc w A (trs T)) (hh : HeldR w T) (hA : ∀ a, A = some a → B ≤ a.block) (hx : ∀ x ∈ T, ∀ a, x.A = some a → B ≤ a.block) : Rc w' A (trs T) ∧ HeldR w' T :=
  ⟨hs.rc hr (fun a e _ => h0 _ (hA a e)), fun x hm => ⟨hs.rc (hh x hm).1 (fun a e _ => h0 _ (hx x hm a e)), (hh x hm).2⟩⟩
theorem same_q (A B : Option Addr) (n k c d : Nat) (l : List UInt8) (w : World) (hl : Rc w A (bs l)) (hm : Rc w B (bs l)) (e1 : n = l.length) (e2 : k = l.length) :
    Calls Try.prog 15 #[.slice A n c, .slice B k d] w fun e w' => e = .returned (.bool true) ∧ ∃ n, w' = w.drewN n :=
  (same_any A B n k c d l l w hl hm e1 e2).mono fun e w' ⟨h1, h2⟩ => ⟨by rw [h1]; simp, 0, h2⟩
theorem trace_elem_info : (Try.prog.info? 52).map (fun i => (i.zero, i.size, i.bytes)) = some (some (.agg #[.int .i64 0, .int .i64 0, .int .i64 0, .slice none 0 0]), 4, 48) := trace_info3
set_option maxRecDepth 100000 in
set_option maxHeartbeats 8000000 in
theorem law_traces (A : Option Addr) (m ca : Nat) (l : List Dd) (w : World) (hr : Rc w A (dds l)) (hH : HeldD w l) (e1 : m = l.length) (hm : m ≤ 140737488355328) (hl : ∀ x ∈ l, x.b.length ≤ 140737488355328) :
    Calls Try.prog 8 #[.slice A m ca] w (RetT w) := by
  have HR := Hd.mk hr
  have HH := Hd.mk hH
  have E1 := Hd.mk e1
  have HL := Hd.mk hl
  clear hr hH e1 hl
  obtain ⟨sm, hsm⟩ : ∃ sm, (decide (m ≤ 40) && decide (longD l ≤ 3000)) = sm := ⟨_, rfl⟩
  have HSM := Hd.mk hsm
  cases sm
  · clear hsm
    go_enter Try.func8, Try.ntmps8
    go_wp2_with (first
      | (go_at_call 23; refine (small_calls A m ca l _ HR.out HH.out E1.out HL.out).mono ?_; rw [HSM.out]; rintro e w1 ⟨rfl, hw⟩; obtain rfl := hw.symm)
      | (go_at_call 10; refine (known_calls _).mono ?_; rintro e w1 ⟨rfl, hb⟩))
    go_ret
    exact ⟨rfl, hb⟩
  · simp only [Bool.and_eq_true, decide_eq_true_eq] at hsm
    have H40 : Hd (m ≤ 40 ∧ longD l ≤ 3000) := ⟨hsm⟩
    clear hsm
    go_enter Try.func8, Try.ntmps8
    go_wp2_with (first
      | (go_at_call 23; refine (small_calls A m ca l _ HR.out HH.out E1.out HL.out).mono ?_; rw [HSM.out]; rintro e w1 ⟨rfl, hw⟩; obtain rfl := hw.symm)
      | (go_at_call 11; refine (wo_new (Below.refl _ _) 3).mono ?_; rintro e w1 ⟨g, K1, rfl, h, _⟩; have W1 := Hd.mk h; clear h))
    have L1 : Hd (Lite (newP 3) 0) := ⟨⟨Int.le_refl _, Nat.le_refl _, (fun _ _ h => nomatch h), Nat.zero_le _, Nat.zero_le _⟩⟩
    have S1 : Hd (∀ x ∈ (newP 3).trace, x.2.2.2.length ≤ 1099511627776) := ⟨fun x h => (nomatch h)⟩
    go_loopw [4, 5, 6, 7, 8, 9, 10] (fun iv _ _ _ _ _ _ wr => ∃ q : Nat, iv = .int .i64 (q : Int) ∧ q ≤ m ∧ ∃ (K : Nat → Nat) (s : Wd), Hd (Wo w wr g K s) ∧ Hd (Lite s q) ∧ Hd (∀ x ∈ s.trace, x.2.2.2.length ≤ 1099511627776)) (fun iv _ _ _ _ _ _ _ => m - (intOf iv).toNat)
    case atStart => exact ⟨0, rfl, Nat.zero_le _, _, _, W1, L1, S1⟩
    case round =>
      clear W1 L1 S1
      obtain ⟨q, rfl, hq, K, s, W, L, SS⟩ := hrel
      by_cases hlt : q < m
      · have hqi : (q : Int) < (m : Int) := by omega
        have hql : q < l.length := by rw [← E1.out]; exact hlt
        obtain ⟨bb, off, rfl, hbb, hra⟩ := rcK_form dds_len (by decide) HR.out (by omega)
        obtain ⟨x, hx⟩ : ∃ x, l[q] = x := ⟨_, rfl⟩
        have hmem : x ∈ l := by rw [← hx]; exact List.getElem_mem hql
        have hra2 := hra q hql
        rw [hx] at hra2
        have HXC : Hd (∀ W, Below w.heap.size w W → W.rangeAt bb (off + q * 5) [.int .i64 x.kind, .int .i64 x.at_, .int .i64 x.slot, .int .i64 x.n, .slice x.A x.b.length x.c]) := ⟨hra2⟩
        have HFX : Hd (Rc w x.A (bs x.b) ∧ x.b.length ≤ x.c) := ⟨HH.out x hmem⟩
        have HBX : Hd (x.b.length ≤ 1099511627776) := ⟨by have := longD_le l x hmem; have := H40.out; omega⟩
        have HTL : Hd (s.trace.length ≤ 40) := ⟨by have := L.out.trace; have := H40.out; omega⟩
        have hq40 : q < 40 := by have := H40.out; omega
        have HQ := Hd.mk hq40
        clear hra hra2 hx hmem hq40
        by_cases h9 : x.kind = 9
        · have HK9 := Hd.mk h9
          have HL2 : Hd (Lite (setP s (IntKind.u64.wrap x.n)) (q + 1)) := ⟨⟨L.out.up.reads, L.out.up.trace, L.out.lies, L.out.s0, L.out.s1⟩⟩
          have HTR : Hd ((setP s (IntKind.u64.wrap x.n)).trace = s.trace) := ⟨rfl⟩
          have HSS2 : Hd (∀ y ∈ (setP s (IntKind.u64.wrap x.n)).trace, y.2.2.2.length ≤ 1099511627776) := ⟨SS.out⟩
          obtain ⟨s2, hs2⟩ : ∃ s2, setP s (IntKind.u64.wrap x.n) = s2 := ⟨_, rfl⟩
          have HDID : Hd (∀ w1 K, Wo w w1 g K s → Calls Try.prog 25 #[.pointer (some ⟨g, 0, none⟩), .agg #[.int .i64 x.kind, .int .i64 x.at_, .int .i64 x.slot, .int .i64 x.n, .slice x.A x.b.length x.c]] w1 (RetV w g K s2 false w1)) := ⟨fun w1 K h => by rw [← hs2, HK9.out]; exact did9 h _ _ _ _⟩
          rw [hs2] at HL2 HTR HSS2
          clear hs2 h9
          have T1 : Hd True := ⟨trivial⟩
          go_wp2_with (first
            | (go_at_call 26; clear T1; refine (wo_trace W.out (by have := HTL.out; omega) SS.out).mono ?_
               rintro e w1 ⟨A5, c5, T5, rfl, hv, hc, hr, hh, hb, ha, hx⟩
               have W1 := Hd.mk (W.out.below hb)
               have H5 := Hd.mk (And.intro hr (And.intro hh (And.intro ha hx))); have V5 := Hd.mk hv
               have hn5 : T5.length = s.trace.length := by rw [← hv, List.length_map]
               have HN5 := Hd.mk hn5
               have HS1 := Hd.mk (W.out.len.2)
               clear hv hc hr hh hb ha hx hn5)
            | (go_at_call 17; refine (wo_dead W1.out).mono ?_; rintro e w2 ⟨rfl, hw⟩; obtain rfl := hw.symm)
            | (refine wpList_ldmid rfl 44 (.tmp 30) rfl bb (off + q * 5) rfl [.int .i64 x.kind, .int .i64 x.at_, .int .i64 x.slot, .int .i64 x.n, .slice x.A x.b.length x.c] _ (HXC.out _ W1.out.bel) Try.underlying44 rfl (do_info.trans rfl) ?_)
            | (go_at_call 25; refine (HDID.out _ _ W1.out).mono ?_
               rintro e w3 ⟨v3, rfl, K3, h3, hs⟩
               have W3 := Hd.mk h3
               have R3 := Hd.mk (tr_outlives hs HS1.out H5.out.1 H5.out.2.1 H5.out.2.2.1 H5.out.2.2.2)
               clear h3 hs)
            | (go_at_call 26; refine (wo_trace W3.out (by rw [HTR.out]; have := HTL.out; omega) HSS2.out).mono ?_
               rw [HTR.out]
               rintro e w4 ⟨A9, c9, T9, rfl, hv, hc, hr, hh, hb, ha, hx⟩
               have W4 := Hd.mk (W3.out.below hb)
               have hn9 : T9.length = T5.length := by rw [HN5.out, ← hv, List.length_map]
               have HN9 := Hd.mk hn9
               rw [hn9] at hc ⊢
               have HSM4 := Hd.mk (sametrace_calls A9 A5 T5.length T5.length c9 c5 T9 T5 w4 hr (R3.out.1.below hb) hh (R3.out.2.below hb) (by rw [hv, V5.out]) hn9.symm rfl (by have := HTL.out; have := HN5.out; omega))
               clear hv hr hh hb ha hx hn9
               obtain ⟨N, hN⟩ : ∃ N, T5.length = N := ⟨_, rfl⟩
               have HNN := Hd.mk hN
               have hN40 : N ≤ 40 := by have := HTL.out; have := HN5.out; omega
               rw [hN] at hc HSM4 ⊢
               clear hN)
            | (go_at_call 27; refine HSM4.out.mono ?_; rintro e w5 ⟨rfl, hb⟩; have W5 := Hd.mk (W4.out.below hb); clear hb))
          all_goals (
            go_roundw
            case rel => exact ⟨q + 1, by go_num, by omega, _, s2, W5, HL2, HSS2⟩
            case measure => simp [intOf]; omega)
        · have HTS := Hd.mk (trace_step s x.kind x.at_ x.slot x.n x.b)
          have HAS := Hd.mk (add_small L.out W.out.len.1 x.kind x.at_ x.slot x.b HBX.out)
          have HL2 : Hd (Lite (doP s x.kind x.at_ x.slot x.n x.b) (q + 1)) := ⟨L.out.step _ _ _ _ _ HBX.out W.out.num.2.2⟩
          have HSS2 : Hd (∀ y ∈ (doP s x.kind x.at_ x.slot x.n x.b).trace, y.2.2.2.length ≤ 1099511627776) := ⟨fun y hy => by rw [HTS.out] at hy; rcases List.mem_append.1 hy with h | h; exact SS.out y h; exact HAS.out y h⟩
          by_cases hadd : addT s x.kind x.at_ x.slot x.b = []
          · have HTR : Hd ((doP s x.kind x.at_ x.slot x.n x.b).trace = s.trace) := ⟨by rw [HTS.out, hadd, List.append_nil]⟩
            have HDID : Hd (∀ w1 K, Wo w w1 g K s → Calls Try.prog 25 #[.pointer (some ⟨g, 0, none⟩), .agg #[.int .i64 x.kind, .int .i64 x.at_, .int .i64 x.slot, .int .i64 x.n, .slice x.A x.b.length x.c]] w1 (RetV w g K (doP s x.kind x.at_ x.slot x.n x.b) (doR s x.kind x.at_ x.slot x.b) w1)) := ⟨fun w1 K h => did_calls h (L.out.few (by have := HQ.out; omega)) x (h.arg HFX.out.1) HFX.out.2 HBX.out h9⟩
            obtain ⟨s2, hs2⟩ : ∃ s2, doP s x.kind x.at_ x.slot x.n x.b = s2 := ⟨_, rfl⟩
            obtain ⟨rr, hrr⟩ : ∃ rr, doR s x.kind x.at_ x.slot x.b = rr := ⟨_, rfl⟩
            rw [hs2] at HL2 HTR HSS2 HDID
            rw [hrr] at HDID
            clear hs2 hrr hadd h9 HTS HAS
            have T1 : Hd True := ⟨trivial⟩
            go_wp2_with (first
              | (go_at_call 26; clear T1; refine (wo_trace W.out (by have := HTL.out; omega) SS.out).mono ?_
                 rintro e w1 ⟨A5, c5, T5, rfl, hv, hc, hr, hh, hb, ha, hx⟩
                 have W1 := Hd.mk (W.out.below hb)
                 have H5 := Hd.mk (And.intro hr (And.intro hh (And.intro ha hx))); have V5 := Hd.mk hv
                 have hn5 : T5.length = s.trace.length := by rw [← hv, List.length_map]
                 have HN5 := Hd.mk hn5
                 have HS1 := Hd.mk (W.out.len.2)
                 clear hv hc hr hh hb ha hx hn5)
              | (go_at_call 17; refine (wo_dead W1.out).mono ?_; rintro e w2 ⟨rfl, hw⟩; obtain rfl := hw.symm)
              | (refine wpList_ldmid rfl 44 (.tmp 30) rfl bb (off + q * 5) rfl [.int .i64 x.kind, .int .i64 x.at_, .int .i64 x.slot, .int .i64 x.n, .slice x.A x.b.length x.c] _ (HXC.out _ W1.out.bel) Try.underlying44 rfl (do_info.trans rfl) ?_)
              | (go_at_call 25; refine (HDID.out _ _ W1.out).mono ?_
                 rintro e w3 ⟨v3, rfl, K3, h3, hs⟩
                 have W3 := Hd.mk h3
                 have R3 := Hd.mk (tr_outlives hs HS1.out H5.out.1 H5.out.2.1 H5.out.2.2.1 H5.out.2.2.2)
                 clear h3 hs)
              | (go_at_call 26; refine (wo_trace W3.out (by rw [HTR.out]; have := HTL.out; omega) HSS2.out).mono ?_
                 rw [HTR.out]
                 rintro e w4 ⟨A9, c9, T9, rfl, hv, hc, hr, hh, hb, ha, hx⟩
                 have W4 := Hd.mk (W3.out.below hb)
                 have hn9 : T9.length = T5.length := by rw [HN5.out, ← hv, List.length_map]
                 have HN9 := Hd.mk hn9
                 rw [hn9] at hc ⊢
                 have HSM4 := Hd.mk (sametrace_calls A9 A5 T5.length T5.length c9 c5 T9 T5 w4 hr (R3.out.1.below hb) hh (R3.out.2.below hb) (by rw [hv, V5.out]) hn9.symm rfl (by have := HTL.out; have := HN5.out; omega))
                 clear hv hr hh hb ha hx hn9
                 obtain ⟨N, hN⟩ : ∃ N, T5.length = N := ⟨_, rfl⟩
                 have HNN := Hd.mk hN
                 have hN40 : N ≤ 40 := by have := HTL.out; have := HN5.out; omega
                 rw [hN] at hc HSM4 ⊢
                 clear hN)
              | (go_at_call 27; refine HSM4.out.mono ?_; rintro e w5 ⟨rfl, hb⟩; have W5 := Hd.mk (W4.out.below hb); clear hb))
            all_goals (
              go_roundw
              case rel => exact ⟨q + 1, by go_num, by omega, _, s2, W5, HL2, HSS2⟩
              case measure => simp [intOf]; omega)
          · obtain ⟨y, hy⟩ : ∃ y, addT s x.kind x.at_ x.slot x.b = [y] := by
              have h1 := add_len s x.kind x.at_ x.slot x.b
              match hq2 : addT s x.kind x.at_ x.slot x.b with
              | [] => exact absurd hq2 hadd
              | [y] => exact ⟨y, rfl⟩
              | y :: z :: t => rw [hq2] at h1; simp at h1
            have HTR : Hd ((doP s x.kind x.at_ x.slot x.n x.b).trace = s.trace ++ [y]) := ⟨by rw [HTS.out, hy]⟩
            have hdd : s.dead = false := by
              cases hd : s.dead
              · rfl
              · rw [add_dead s _ _ _ _ hd] at hy; cases hy
            have HDD := Hd.mk hdd
            obtain ⟨s2, hs2⟩ : ∃ s2, doP s x.kind x.at_ x.slot x.n x.b = s2 := ⟨_, rfl⟩
            have HS2 := Hd.mk hs2
            rw [hs2] at HL2 HTR HSS2
            have H9 := Hd.mk h9
            clear hs2 hadd h9 HTS HAS hdd
            by_cases hk1 : x.kind = 1
            · have hy1 : y = (1, x.at_, x.slot, readB s x.at_ x.slot) := by
                unfold addT at hy
                rw [if_pos hk1] at hy
                split at hy
                · exact (List.cons.inj hy).1.symm
                · cases hy
              have HS3 : Hd (readP s x.at_ x.slot = s2) := ⟨by rw [← HS2.out]; unfold doP; rw [if_pos hk1]⟩
              rw [hk1] at HXC
              subst hy1
              clear hy hk1 HS2 H9
              have T1 : Hd True := ⟨trivial⟩
              go_wp2_with (first
                | (go_at_call 26; clear T1; refine (wo_trace W.out (by have := HTL.out; omega) SS.out).mono ?_
                   rintro e w1 ⟨A5, c5, T5, rfl, hv, hc, hr, hh, hb, ha, hx⟩
                   have W1 := Hd.mk (W.out.below hb)
                   have H5 := Hd.mk (And.intro hr (And.intro hh (And.intro ha hx))); have V5 := Hd.mk hv
                   have hn5 : T5.length = s.trace.length := by rw [← hv, List.length_map]
                   have HN5 := Hd.mk hn5
                   have HS1 := Hd.mk (W.out.len.2)
                   clear hv hc hr hh hb ha hx hn5)
                | (go_at_call 17; refine (wo_dead W1.out).mono ?_; rw [HDD.out]; rintro e w2 ⟨rfl, hw⟩; obtain rfl := hw.symm)
                | (refine wpList_ldmid rfl 44 (.tmp 30) rfl bb (off + q * 5) rfl [.int .i64 1, .int .i64 x.at_, .int .i64 x.slot, .int .i64 x.n, .slice x.A x.b.length x.c] _ (HXC.out _ W1.out.bel) Try.underlying44 rfl (do_info.trans rfl) ?_)
                | (go_at_call 25; refine (did1b W1.out (L.out.few (by have := HQ.out; omega)) _ _ _ _ _ _).mono ?_
                   rw [HS3.out]
                   rintro e w3 ⟨A7, c7, K3, rfl, hf7, h3, hs⟩
                   have W3 := Hd.mk h3; have R7 := Hd.mk hf7.rc
                   have R3 := Hd.mk (tr_outlives hs HS1.out H5.out.1 H5.out.2.1 H5.out.2.2.1 H5.out.2.2.2)
                   clear h3 hs hf7)
                | (go_at_call 26; refine (wo_trace W3.out (by rw [HTR.out, List.length_append]; have := HTL.out; simp; omega) HSS2.out).mono ?_
                   rw [HTR.out]
                   rintro e w4 ⟨A9, c9, T9, rfl, hv, hc, hr, hh, hb, ha, hx⟩
                   have W4 := Hd.mk (W3.out.below hb)
                   have hn9 : T9.length = T5.length + 1 := by have := congrArg List.length hv; rw [List.length_map, List.length_append] at this; rw [HN5.out, this]; rfl
                   have htk : (T9.take T5.length).map Tr.val = T5.map Tr.val := by rw [List.map_take, hv, V5.out, HN5.out, List.take_left' rfl]
                   have hlt9 : T5.length < T9.length := by omega
                   have hz : Tr.val T9[T5.length] = (1, x.at_, x.slot, readB s x.at_ x.slot) := by
                     have e := congrArg (fun z => z[T5.length]?) hv
                     rw [HN5.out] at e
                     simp only [List.getElem?_map, List.getElem?_append_right (Nat.le_refl _), Nat.sub_self] at e
                     rw [← HN5.out, List.getElem?_eq_getElem hlt9] at e
                     simpa using e
                   have HSM4 := Hd.mk (sametrace_calls A9 A5 T5.length T5.length c9 c5 (T9.take T5.length) T5 w4 (by rw [trs_take]; exact hr.take _) (R3.out.1.below hb) (fun z hz => hh z (List.mem_of_mem_take hz)) (R3.out.2.below hb) htk (by rw [List.length_take]; omega) rfl (by have := HTL.out; have := HN5.out; omega))
                   obtain ⟨b9, o9, rfl, _, hr9⟩ := rcK_form trs_four (by decide) hr (by omega)
                   have hz9 := hr9 T5.length hlt9
                   have hzb := (hh T9[T5.length] (List.getElem_mem hlt9)).1
                   obtain ⟨z, hzz⟩ : ∃ z, T9[T5.length] = z := ⟨_, rfl⟩
                   rw [hzz] at hz hz9 hzb
                   obtain ⟨zk, za, zt, zA, zb, zc⟩ := z
                   simp only [Tr.val, Prod.mk.injEq] at hz
                   obtain ⟨rfl, rfl, rfl, rfl⟩ := hz
                   have HZ := Hd.mk hz9; have HZB := Hd.mk hzb
                   have R74 := Hd.mk (R7.out.below hb)
                   rw [hn9] at hc ⊢
                   clear hv hr hh hb ha hx hn9 htk hlt9 hr9 hz9 hzb hzz
                   obtain ⟨N, hN⟩ : ∃ N, T5.length = N := ⟨_, rfl⟩
                   have HNN := Hd.mk hN
                   have hN40 : N ≤ 40 := by have := HTL.out; have := HN5.out; omega
                   have hNc : N ≤ c9 := by omega
                   rw [hN] at hc HSM4 HZ ⊢
                   clear hN)
                | (go_at_call 27; refine HSM4.out.mono ?_; rintro e w5 ⟨rfl, hb⟩; have W5 := Hd.mk (W4.out.below hb); have hb5 := Hd.mk hb
                   have q0 := HXC.out w5 W5.out.bel 0 _ rfl
                   have q1 := HXC.out w5 W5.out.bel 1 _ rfl
                   have q2 := HXC.out w5 W5.out.bel 2 _ rfl
                   have q4 := HXC.out w5 W5.out.bel 4 _ rfl
                   clear hb)
                | (refine wpList_ldmid rfl 52 (.tmp 77) rfl b9 (o9 + N * 4) rfl [.int .i64 1, .int .i64 x.at_, .int .i64 x.slot, .slice zA (List.length (readB s x.at_ x.slot)) zc] _ (HZ.out _ hb5.out) Try.underlying52 rfl (trace_info.trans rfl) ?_)
              )
              obtain ⟨wx, hwx⟩ : ∃ wx, w5.alloc (.cells #[.int .i64 1, .int .i64 x.at_, .int .i64 x.slot, .slice zA (List.length (readB s x.at_ x.slot)) zc] 52) = wx := ⟨_, rfl⟩
              obtain ⟨gx, hgx⟩ : ∃ gx, w5.heap.size = gx := ⟨_, rfl⟩
              have hnb : Blk wx gx 52 [.int .i64 1, .int .i64 x.at_, .int .i64 x.slot, .slice zA (List.length (readB s x.at_ x.slot)) zc] := by rw [← hwx, ← hgx]; exact Blk.new w5 _ _
              have hbx : Below w5.heap.size w5 wx := by rw [← hwx]; exact (Below.refl _ _).alloc (Nat.le_refl _) _
              rw [hwx, hgx]
              have hx5 : Below w.heap.size w wx := below_then W5.out.bel W5.out.bel.size hbx
              have WX := Hd.mk (W5.out.below hbx)
              have RA := Hd.mk ((HZB.out.below hb5.out).below hbx)
              have RB := Hd.mk ((R74.out.below hb5.out).below hbx)
              have k0 := hnb.cell (i := 0) rfl
              have k1 := hnb.cell (i := 1) rfl
              have k2 := hnb.cell (i := 2) rfl
              have k3 := hnb.cell (i := 3) rfl
              have q0 := HXC.out wx hx5 0 _ rfl
              have q1 := HXC.out wx hx5 1 _ rfl
              have q2 := HXC.out wx hx5 2 _ rfl
              have q4 := HXC.out wx hx5 4 _ rfl
              rw [Nat.add_zero] at q0
              clear hwx hgx hnb hbx hx5
              try simp only [List.append_eq, List.cons_append, List.nil_append, HAppend.hAppend, Append.append, List.append]
              go_quiet ((go_at_call 15; first | exact Calls.quiet_of (same_q _ _ _ _ _ _ _ _ (RA.out.below (below_drewN (Below.refl _ _) _)) (RB.out.below (below_drewN (Below.refl _ _) _)) rfl rfl) | exact Calls.quiet_of (same_q _ _ _ _ _ _ _ _ RA.out RB.out rfl rfl)))
              have WX := Hd.mk (WX.out.below (below_drewN (Below.refl _ _) nq))
              generalize wx.drewN nq = wy at *
              go_wp2
              go_roundw
              case rel => exact ⟨q + 1, by go_num, by omega, _, s2, WX, HL2, HSS2⟩
              case measure => simp [intOf]; omega
            · by_cases hk2 : x.kind = 2
              · have hy1 : y = (2, x.at_, x.slot, x.b) := by
                  unfold addT at hy
                  rw [if_neg hk1, if_pos hk2] at hy
                  split at hy
                  · exact (List.cons.inj hy).1.symm
                  · cases hy
                have HDID : Hd (∀ w1 K, Wo w w1 g K s → Calls Try.prog 25 #[.pointer (some ⟨g, 0, none⟩), .agg #[.int .i64 2, .int .i64 x.at_, .int .i64 x.slot, .int .i64 x.n, .slice x.A x.b.length x.c]] w1 (RetV w g K s2 (doR s x.kind x.at_ x.slot x.b) w1)) := ⟨fun w1 K h => by rw [← HS2.out, ← hk2]; exact did_calls h (L.out.few (by have := HQ.out; omega)) x (h.arg HFX.out.1) HFX.out.2 HBX.out H9.out⟩
                obtain ⟨rr, hrr⟩ : ∃ rr, doR s x.kind x.at_ x.slot x.b = rr := ⟨_, rfl⟩
                rw [hrr] at HDID
                rw [hk2] at HXC
                subst hy1
                clear hy hk1 hk2 HS2 H9 hrr
                have T1 : Hd True := ⟨trivial⟩
                go_wp2_with (first
                  | (go_at_call 26; clear T1; refine (wo_trace W.out (by have := HTL.out; omega) SS.out).mono ?_
                     rintro e w1 ⟨A5, c5, T5, rfl, hv, hc, hr, hh, hb, ha, hx⟩
                     have W1 := Hd.mk (W.out.below hb)
                     have H5 := Hd.mk (And.intro hr (And.intro hh (And.intro ha hx))); have V5 := Hd.mk hv
                     have hn5 : T5.length = s.trace.length := by rw [← hv, List.length_map]
                     have HN5 := Hd.mk hn5
                     have HS1 := Hd.mk (W.out.len.2)
                     clear hv hc hr hh hb ha hx hn5)
                  | (go_at_call 17; refine (wo_dead W1.out).mono ?_; rw [HDD.out]; rintro e w2 ⟨rfl, hw⟩; obtain rfl := hw.symm)
                  | (refine wpList_ldmid rfl 44 (.tmp 30) rfl bb (off + q * 5) rfl [.int .i64 2, .int .i64 x.at_, .int .i64 x.slot, .int .i64 x.n, .slice x.A x.b.length x.c] _ (HXC.out _ W1.out.bel) Try.underlying44 rfl (do_info.trans rfl) ?_)
                  | (go_at_call 25; refine (HDID.out _ _ W1.out).mono ?_
                     rintro e w3 ⟨v3, rfl, K3, h3, hs⟩
                     have W3 := Hd.mk h3
                     have R3 := Hd.mk (tr_outlives hs HS1.out H5.out.1 H5.out.2.1 H5.out.2.2.1 H5.out.2.2.2)
                     clear h3 hs)
                  | (go_at_call 26; refine (wo_trace W3.out (by rw [HTR.out, List.length_append]; have := HTL.out; simp; omega) HSS2.out).mono ?_
                     rw [HTR.out]
                     rintro e w4 ⟨A9, c9, T9, rfl, hv, hc, hr, hh, hb, ha, hx⟩
                     have W4 := Hd.mk (W3.out.below hb)
                     have hn9 : T9.length = T5.length + 1 := by have := congrArg List.length hv; rw [List.length_map, List.length_append] at this; rw [HN5.out, this]; rfl
                     have htk : (T9.take T5.length).map Tr.val = T5.map Tr.val := by rw [List.map_take, hv, V5.out, HN5.out, List.take_left' rfl]
                     have hlt9 : T5.length < T9.length := by omega
                     have hz : Tr.val T9[T5.length] = (2, x.at_, x.slot, x.b) := by
                       have e := congrArg (fun z => z[T5.length]?) hv
                       rw [HN5.out] at e
                       simp only [List.getElem?_map, List.getElem?_append_right (Nat.le_refl _), Nat.sub_self] at e
                       rw [← HN5.out, List.getElem?_eq_getElem hlt9] at e
                       simpa using e
                     have HSM4 := Hd.mk (sametrace_calls A9 A5 T5.length T5.length c9 c5 (T9.take T5.length) T5 w4 (by rw [trs_take]; exact hr.take _) (R3.out.1.below hb) (fun z hz => hh z (List.mem_of_mem_take hz)) (R3.out.2.below hb) htk (by rw [List.length_take]; omega) rfl (by have := HTL.out; have := HN5.out; omega))
                     obtain ⟨b9, o9, rfl, _, hr9⟩ := rcK_form trs_four (by decide) hr (by omega)
                     have hz9 := hr9 T5.length hlt9
                     have hzb := (hh T9[T5.length] (List.getElem_mem hlt9)).1
                     obtain ⟨z, hzz⟩ : ∃ z, T9[T5.length] = z := ⟨_, rfl⟩
                     rw [hzz] at hz hz9 hzb
                     obtain ⟨zk, za, zt, zA, zb, zc⟩ := z
                     simp only [Tr.val, Prod.mk.injEq] at hz
                     obtain ⟨rfl, rfl, rfl, rfl⟩ := hz
                     have HZ := Hd.mk hz9; have HZB := Hd.mk hzb
                     skip
                     rw [hn9] at hc ⊢
                     clear hv hr hh hb ha hx hn9 htk hlt9 hr9 hz9 hzb hzz
                     obtain ⟨N, hN⟩ : ∃ N, T5.length = N := ⟨_, rfl⟩
                     have HNN := Hd.mk hN
                     have hN40 : N ≤ 40 := by have := HTL.out; have := HN5.out; omega
                     have hNc : N ≤ c9 := by omega
                     rw [hN] at hc HSM4 HZ ⊢
                     clear hN)
                  | (go_at_call 27; refine HSM4.out.mono ?_; rintro e w5 ⟨rfl, hb⟩; have W5 := Hd.mk (W4.out.below hb); have hb5 := Hd.mk hb
                     have q0 := HXC.out w5 W5.out.bel 0 _ rfl
                     have q1 := HXC.out w5 W5.out.bel 1 _ rfl
                     have q2 := HXC.out w5 W5.out.bel 2 _ rfl
                     have q4 := HXC.out w5 W5.out.bel 4 _ rfl
                     clear hb)
                  | (refine wpList_ldmid rfl 52 (.tmp 77) rfl b9 (o9 + N * 4) rfl [.int .i64 2, .int .i64 x.at_, .int .i64 x.slot, .slice zA (List.length (x.b)) zc] _ (HZ.out _ hb5.out) Try.underlying52 rfl (trace_info.trans rfl) ?_)
                )
                obtain ⟨wx, hwx⟩ : ∃ wx, w5.alloc (.cells #[.int .i64 2, .int .i64 x.at_, .int .i64 x.slot, .slice zA (List.length (x.b)) zc] 52) = wx := ⟨_, rfl⟩
                obtain ⟨gx, hgx⟩ : ∃ gx, w5.heap.size = gx := ⟨_, rfl⟩
                have hnb : Blk wx gx 52 [.int .i64 2, .int .i64 x.at_, .int .i64 x.slot, .slice zA (List.length (x.b)) zc] := by rw [← hwx, ← hgx]; exact Blk.new w5 _ _
                have hbx : Below w5.heap.size w5 wx := by rw [← hwx]; exact (Below.refl _ _).alloc (Nat.le_refl _) _
                rw [hwx, hgx]
                have hx5 : Below w.heap.size w wx := below_then W5.out.bel W5.out.bel.size hbx
                have WX := Hd.mk (W5.out.below hbx)
                have RA := Hd.mk ((HZB.out.below hb5.out).below hbx)
                have RB := Hd.mk ((HFX.out.1.below W5.out.bel).below hbx)
                have k0 := hnb.cell (i := 0) rfl
                have k1 := hnb.cell (i := 1) rfl
                have k2 := hnb.cell (i := 2) rfl
                have k3 := hnb.cell (i := 3) rfl
                have q0 := HXC.out wx hx5 0 _ rfl
                have q1 := HXC.out wx hx5 1 _ rfl
                have q2 := HXC.out wx hx5 2 _ rfl
                have q4 := HXC.out wx hx5 4 _ rfl
                rw [Nat.add_zero] at q0
                clear hwx hgx hnb hbx hx5
                try simp only [List.append_eq, List.cons_append, List.nil_append, HAppend.hAppend, Append.append, List.append]
                go_quiet ((go_at_call 15; first | exact Calls.quiet_of (same_q _ _ _ _ _ _ _ _ (RA.out.below (below_drewN (Below.refl _ _) _)) (RB.out.below (below_drewN (Below.refl _ _) _)) rfl rfl) | exact Calls.quiet_of (same_q _ _ _ _ _ _ _ _ RA.out RB.out rfl rfl)))
                have WX := Hd.mk (WX.out.below (below_drewN (Below.refl _ _) nq))
                generalize wx.drewN nq = wy at *
                go_wp2
                go_roundw
                case rel => exact ⟨q + 1, by go_num, by omega, _, s2, WX, HL2, HSS2⟩
                case measure => simp [intOf]; omega
              · have hk5 : x.kind ≤ 5 := by
                  unfold addT at hy
                  rw [if_neg hk1, if_neg hk2] at hy
                  by_cases h3 : x.kind = 3
                  · omega
                  · rw [if_neg h3] at hy
                    by_cases h4 : x.kind = 4
                    · omega
                    · rw [if_neg h4] at hy
                      by_cases h5 : x.kind = 5
                      · omega
                      · rw [if_neg h5] at hy; cases hy
                have hk5i : ¬ 5 < x.kind := by omega
                have e1k : (x.kind == 1) = false := by rw [beq_eq_false_iff_ne]; exact hk1
                have e2k : (x.kind == 2) = false := by rw [beq_eq_false_iff_ne]; exact hk2
                have HDID : Hd (∀ w1 K, Wo w w1 g K s → Calls Try.prog 25 #[.pointer (some ⟨g, 0, none⟩), .agg #[.int .i64 x.kind, .int .i64 x.at_, .int .i64 x.slot, .int .i64 x.n, .slice x.A x.b.length x.c]] w1 (RetV w g K s2 (doR s x.kind x.at_ x.slot x.b) w1)) := ⟨fun w1 K h => by rw [← HS2.out]; exact did_calls h (L.out.few (by have := HQ.out; omega)) x (h.arg HFX.out.1) HFX.out.2 HBX.out H9.out⟩
                obtain ⟨rr, hrr⟩ : ∃ rr, doR s x.kind x.at_ x.slot x.b = rr := ⟨_, rfl⟩
                rw [hrr] at HDID
                obtain ⟨yk, ya, yt, yb⟩ := y
                clear hy HS2 H9 hrr
                have T1 : Hd True := ⟨trivial⟩
                go_wp2_with (first
                  | (go_at_call 26; clear T1; refine (wo_trace W.out (by have := HTL.out; omega) SS.out).mono ?_
                     rintro e w1 ⟨A5, c5, T5, rfl, hv, hc, hr, hh, hb, ha, hx⟩
                     have W1 := Hd.mk (W.out.below hb)
                     have H5 := Hd.mk (And.intro hr (And.intro hh (And.intro ha hx))); have V5 := Hd.mk hv
                     have hn5 : T5.length = s.trace.length := by rw [← hv, List.length_map]
                     have HN5 := Hd.mk hn5
                     have HS1 := Hd.mk (W.out.len.2)
                     clear hv hc hr hh hb ha hx hn5)
                  | (go_at_call 17; refine (wo_dead W1.out).mono ?_; rw [HDD.out]; rintro e w2 ⟨rfl, hw⟩; obtain rfl := hw.symm)
                  | (refine wpList_ldmid rfl 44 (.tmp 30) rfl bb (off + q * 5) rfl [.int .i64 x.kind, .int .i64 x.at_, .int .i64 x.slot, .int .i64 x.n, .slice x.A x.b.length x.c] _ (HXC.out _ W1.out.bel) Try.underlying44 rfl (do_info.trans rfl) ?_)
                  | (go_at_call 25; refine (HDID.out _ _ W1.out).mono ?_
                     rintro e w3 ⟨v3, rfl, K3, h3, hs⟩
                     have W3 := Hd.mk h3
                     have R3 := Hd.mk (tr_outlives hs HS1.out H5.out.1 H5.out.2.1 H5.out.2.2.1 H5.out.2.2.2)
                     clear h3 hs)
                  | (go_at_call 26; refine (wo_trace W3.out (by rw [HTR.out, List.length_append]; have := HTL.out; simp; omega) HSS2.out).mono ?_
                     rw [HTR.out]
                     rintro e w4 ⟨A9, c9, T9, rfl, hv, hc, hr, hh, hb, ha, hx⟩
                     have W4 := Hd.mk (W3.out.below hb)
                     have hn9 : T9.length = T5.length + 1 := by have := congrArg List.length hv; rw [List.length_map, List.length_append] at this; rw [HN5.out, this]; rfl
                     have htk : (T9.take T5.length).map Tr.val = T5.map Tr.val := by rw [List.map_take, hv, V5.out, HN5.out, List.take_left' rfl]
                     have hlt9 : T5.length < T9.length := by omega
                     have hz : Tr.val T9[T5.length] = (yk, ya, yt, yb) := by
                       have e := congrArg (fun z => z[T5.length]?) hv
                       rw [HN5.out] at e
                       simp only [List.getElem?_map, List.getElem?_append_right (Nat.le_refl _), Nat.sub_self] at e
                       rw [← HN5.out, List.getElem?_eq_getElem hlt9] at e
                       simpa using e
                     have HSM4 := Hd.mk (sametrace_calls A9 A5 T5.length T5.length c9 c5 (T9.take T5.length) T5 w4 (by rw [trs_take]; exact hr.take _) (R3.out.1.below hb) (fun z hz => hh z (List.mem_of_mem_take hz)) (R3.out.2.below hb) htk (by rw [List.length_take]; omega) rfl (by have := HTL.out; have := HN5.out; omega))
                     obtain ⟨b9, o9, rfl, _, hr9⟩ := rcK_form trs_four (by decide) hr (by omega)
                     have hz9 := hr9 T5.length hlt9
                     have hzb := (hh T9[T5.length] (List.getElem_mem hlt9)).1
                     obtain ⟨z, hzz⟩ : ∃ z, T9[T5.length] = z := ⟨_, rfl⟩
                     rw [hzz] at hz hz9 hzb
                     obtain ⟨zk, za, zt, zA, zb, zc⟩ := z
                     simp only [Tr.val, Prod.mk.injEq] at hz
                     obtain ⟨rfl, rfl, rfl, rfl⟩ := hz
                     have HZ := Hd.mk hz9; have HZB := Hd.mk hzb
                     skip
                     rw [hn9] at hc ⊢
                     clear hv hr hh hb ha hx hn9 htk hlt9 hr9 hz9 hzb hzz
                     obtain ⟨N, hN⟩ : ∃ N, T5.length = N := ⟨_, rfl⟩
                     have HNN := Hd.mk hN
                     have hN40 : N ≤ 40 := by have := HTL.out; have := HN5.out; omega
                     have hNc : N ≤ c9 := by omega
                     rw [hN] at hc HSM4 HZ ⊢
                     clear hN)
                  | (go_at_call 27; refine HSM4.out.mono ?_; rintro e w5 ⟨rfl, hb⟩; have W5 := Hd.mk (W4.out.below hb); have hb5 := Hd.mk hb
                     have q0 := HXC.out w5 W5.out.bel 0 _ rfl
                     have q1 := HXC.out w5 W5.out.bel 1 _ rfl
                     have q2 := HXC.out w5 W5.out.bel 2 _ rfl
                     have q4 := HXC.out w5 W5.out.bel 4 _ rfl
                     clear hb)
                  | (refine wpList_ldmid rfl 52 (.tmp 77) rfl b9 (o9 + N * 4) rfl [.int .i64 zk, .int .i64 za, .int .i64 zt, .slice zA (List.length (zb)) zc] _ (HZ.out _ hb5.out) Try.underlying52 rfl (trace_info.trans rfl) ?_)
                )
                obtain ⟨wx, hwx⟩ : ∃ wx, w5.alloc (.cells #[.int .i64 zk, .int .i64 za, .int .i64 zt, .slice zA (List.length (zb)) zc] 52) = wx := ⟨_, rfl⟩
                obtain ⟨gx, hgx⟩ : ∃ gx, w5.heap.size = gx := ⟨_, rfl⟩
                have hnb : Blk wx gx 52 [.int .i64 zk, .int .i64 za, .int .i64 zt, .slice zA (List.length (zb)) zc] := by rw [← hwx, ← hgx]; exact Blk.new w5 _ _
                have hbx : Below w5.heap.size w5 wx := by rw [← hwx]; exact (Below.refl _ _).alloc (Nat.le_refl _) _
                rw [hwx, hgx]
                have hx5 : Below w.heap.size w wx := below_then W5.out.bel W5.out.bel.size hbx
                have WX := Hd.mk (W5.out.below hbx)
                have RA := Hd.mk ((HZB.out.below hb5.out).below hbx)
                have k0 := hnb.cell (i := 0) rfl
                have k1 := hnb.cell (i := 1) rfl
                have k2 := hnb.cell (i := 2) rfl
                have k3 := hnb.cell (i := 3) rfl
                have q0 := HXC.out wx hx5 0 _ rfl
                have q1 := HXC.out wx hx5 1 _ rfl
                have q2 := HXC.out wx hx5 2 _ rfl
                have q4 := HXC.out wx hx5 4 _ rfl
                rw [Nat.add_zero] at q0
                clear hwx hgx hnb hbx hx5
                try simp only [List.append_eq, List.cons_append, List.nil_append, HAppend.hAppend, Append.append, List.append]
                go_quiet (fail)
                have WX := Hd.mk (WX.out.below (below_drewN (Below.refl _ _) nq))
                generalize wx.drewN nq = wy at *
                go_wp2
                go_roundw
                case rel => exact ⟨q + 1, by go_num, by omega, _, s2, WX, HL2, HSS2⟩
                case measure => simp [intOf]; omega
      · obtain rfl : q = m := by omega
        go_wp2_with (go_at_call 10; refine (known_calls _).mono ?_; rintro e w9 ⟨rfl, hb⟩)
        go_ret
        exact ⟨rfl, below_then W.out.bel W.out.bel.size hb⟩
theorem row_traces (A : Option Addr) (ca : Nat) (l : List Dd) (w : World) (hr : Rc w A (dds l)) (hc : l.length ≤ ca) (hm : l.length ≤ 140737488355328) (hH : HeldD w l ∧ ∀ x ∈ l, x.b.length ≤ 140737488355328) :
    Calls Try.prog 8 #[.slice A l.length ca] w (RetT w) :=
  law_traces A _ ca l w hr hH.1 rfl hm hH.2
end Go.Proofs.Ytffhncpgknkkaaa
