/- W06Read: a slot is read; a seal is looked at. -/
import Derived.Test.YtffhncpgknkkaaaW06Told
import Derived.Test.YtffhncpgknkkaaaW06Note
import Derived.Test.YtffhncpgknkkaaaW06Slot
namespace Go.Proofs.Ytffhncpgknkkaaa
open Go.RowKit Go.Sac
set_option linter.unusedVariables false
set_option linter.unusedSimpArgs false
section
variable {w : World} {g : Nat} {K : Nat → Nat} {c : Wc} {s : Wd}
/-- few enough of all -/
structure Few (s : Wd) : Prop where
  reads : s.reads ≤ 1000000
  trace : s.trace.length ≤ 1000000
  lies : ∀ n l, s.lies n = some l → l.length ≤ 1099511627776
  s0 : s.s0.length ≤ 1099511627776
  s1 : s.s1.length ≤ 1099511627776
theorem T_len (h : WdAt w g K c s) : c.T.length = s.trace.length := by rw [← h.tv, List.length_map]
def readB (s : Wd) (a b : Int) : List UInt8 := if thereP s a b = true then toldB s (s.slots (a, b)) else []
def readP (s : Wd) (a b : Int) : Wd := if thereP s a b = true then noteP (toldP s) 1 a b (toldB s (s.slots (a, b))) else s
/-- a world went on, and handed out a row that is none of its own -/
def RetW (g : Nat) (K : Nat → Nat) (s' : Wd) (b : List UInt8) (w : World) (e : Ending) (w' : World) : Prop :=
  ∃ v K' c', e = .returned v ∧ w'.ownsRow w.heap.size 5 1 v b.length (bs b) ∧ (∀ k, v.ownBlock = some k → K' k = 0) ∧ WdAt w' g K' c' s' ∧ Stp K K' w w' ∧ ∀ k, K k ≠ 0 → K' k = K k
theorem toldB_len (hf : Few s) (b : List UInt8) (hb : b.length ≤ 1099511627776) : (toldB s b).length ≤ 1099511627776 := by
  unfold toldB
  cases h : s.lies s.reads with
  | none => exact hb
  | some l => exact hf.lies _ l h
/-- what was told, once noted -/
theorem told_noted {w1 w2 : World} {K' : Nat → Nat} {n : Nat} {v : Value} {b : List UInt8} (hd : ∀ k, K k ≠ 0 → k < n) (ho : w1.ownsRow n 5 1 v b.length (bs b)) (hs : Stp K K' w1 w2) : w2.ownsRow n 5 1 v b.length (bs b) ∧ ∀ k, v.ownBlock = some k → K' k = 0 := by
  have h0 : ∀ k, v.ownBlock = some k → k < w1.heap.size ∧ K k = 0 := fun k hk => by
    have h1 := own_lt ho k hk
    refine ⟨h1.2, ?_⟩
    by_cases e : K k = 0
    · exact e
    · have := hd k e; omega
  exact ⟨own_keep ho fun k hk => hs.block k (h0 k hk).1 (h0 k hk).2, fun k hk => hs.free k (h0 k hk).1 (h0 k hk).2⟩
set_option maxRecDepth 100000 in
set_option maxHeartbeats 4000000 in
theorem read_calls (h : WdAt w g K c s) (hf : Few s) (a b : Int) : Calls Try.prog 13 #[.pointer (some ⟨g, 0, none⟩), .int .i64 a, .int .i64 b] w (RetW g K (readP s a b) (readB s a b) w) := by
  have HW := Hd.mk h
  have HF := Hd.mk hf
  cases ht : thereP s a b
  · have H1 : Hd (readP s a b = s ∧ readB s a b = []) := ⟨by unfold readP readB; rw [ht]; exact ⟨rfl, rfl⟩⟩
    have HT := Hd.mk ht
    clear h hf ht
    go_enter Try.func13, Try.ntmps13
    go_wp2_with (go_at_call 33; refine (there_calls HW.out a b).mono ?_; rw [HT.out]; rintro e w1 ⟨rfl, hw⟩; obtain rfl := hw.symm)
    go_ret
    rw [H1.out.1, H1.out.2]
    exact ⟨_, K, c, rfl, World.ownsRow_nil _ _ _ _, fun k hk => (by cases hk), HW.out, Stp.refl _ _, fun _ _ => rfl⟩
  · have H1 : Hd (readP s a b = noteP (toldP s) 1 a b (toldB s (s.slots (a, b))) ∧ readB s a b = toldB s (s.slots (a, b))) := ⟨by unfold readP readB; rw [ht]; exact ⟨rfl, rfl⟩⟩
    have HT := Hd.mk ht
    have HTB := Hd.mk (toldB_len hf (s.slots (a, b)) (by rw [h.len]; decide))
    have hTR : s.trace.length ≤ 1000000 := hf.trace
    have HTR := Hd.mk hTR
    have hsl := slice_all
    clear h hf ht hTR
    go_enter Try.func13, Try.ntmps13
    go_wp2_with (first
      | (go_at_call 33; refine (there_calls HW.out a b).mono ?_; rw [HT.out]; rintro e w1 ⟨rfl, hw⟩; obtain rfl := hw.symm)
      | (go_at_call 36; refine (slot_calls HW.out a b).mono ?_; rintro e w2 ⟨q, K2, F2, rfl, hq, hw2, hs2, hk2⟩; have HQ2 := Hd.mk hq; have HW2 := Hd.mk hw2; have HS2 := Hd.mk hs2; have HK2 := Hd.mk hk2; clear hq hw2 hs2 hk2)
      | (go_at_call 38; refine (told_calls HW2.out (some ⟨q, 0, none⟩) 272 272 (s.slots (a, b)) (HW2.out.hs _ q HQ2.out).2.rc (fun ad e h2 => by injection e with e; subst e; have h3 := (HW2.out.hs _ q HQ2.out).1; have h4 := HW2.out.kg; have h2 : q = g := h2; rw [h2] at h3; omega) (HW2.out.len _).symm (by rw [HW2.out.len]; decide) (fun l hl => HF.out.lies _ l hl) HF.out.reads).mono ?_
         rintro e w3 ⟨v3, rfl, ho, hw3, hs3⟩
         obtain ⟨A3, c3, rfl, hc3, hr3, _⟩ := own_rc ho
         have HO3 := Hd.mk ho; have HW3 := Hd.mk hw3; have HS3 := Hd.mk hs3; have HR3 := Hd.mk hr3
         have HA3 : Hd (∀ ad, A3 = some ad → K2 ad.block ≠ 5) := ⟨fun ad e => by
           have h1 := own_lt ho ad.block (by rw [e]; rfl)
           by_cases e0 : K2 ad.block = 0
           · omega
           · have := HW2.out.dom _ e0; omega⟩
         clear ho hw3 hs3 hc3 hr3)
      | (go_at_call 34; refine (note_calls HW3.out 1 a b A3 (toldB s (s.slots (a, b))).length c3 (toldB s (s.slots (a, b))) HR3.out (fun ad e _ => HA3.out ad e) rfl HTB.out (by rw [T_len HW3.out]; exact HTR.out)).mono ?_
         rintro e w4 ⟨rfl, K4, v4, x4, hw4, hs4, hk4⟩
         have HW4 := Hd.mk hw4; have HS4 := Hd.mk hs4; have HK4 := Hd.mk hk4
         clear hw4 hs4 hk4))
    go_ret
    rw [H1.out.1, H1.out.2]
    obtain ⟨h1, h2⟩ := told_noted HW2.out.dom HO3.out HS4.out
    exact ⟨_, K4, _, rfl, own_lower h1 HS2.out.size, h2, HW4.out, HS2.out.trans (HS3.out.trans HS4.out), fun k hk => by rw [HK4.out k (by rw [HK2.out k hk]; exact hk), HK2.out k hk]⟩
def sealOf (s : Wd) (i : Int) : List UInt8 := if i = 0 then s.s0 else s.s1
def lookB (s : Wd) (i : Int) : List UInt8 := if sealedP s i = true then toldB s (sealOf s i) else []
def lookP (s : Wd) (i : Int) : Wd := if sealedP s i = true then noteP (toldP s) 3 i 0 (toldB s (sealOf s i)) else s
/-- the world's seal i, where it lies -/
theorem seal_at (h : WdAt w g K c s) (i : Int) (hi : i = 0 ∨ i = 1) : ∃ A cap, (Instr.indexAt 66 (.pointer (some ⟨g, 2, none⟩)) (.int .i64 i)).run Try.prog w = .ok (.pointer (some ⟨g, 2 + i.toNat, none⟩)) w ∧ w.cell? ⟨g, 2 + i.toNat, none⟩ = some (.slice A (sealOf s i).length cap) ∧ Row6 w K A (sealOf s i) cap := by
  have hix : (Instr.indexAt 66 (.pointer (some ⟨g, 2, none⟩)) (.int .i64 i)).run Try.prog w = .ok (.pointer (some ⟨g, 2 + i.toNat, none⟩)) w := by
    rcases hi with rfl | rfl
    · simp [Instr.indexAt, Sem.run_bind, run_underlying Try.underlying66, Result.andThen, Instr.sureAddr, asIntOf, Try.sizeOf22, addr_add]
    · simp [Instr.indexAt, Sem.run_bind, run_underlying Try.underlying66, Result.andThen, Instr.sureAddr, asIntOf, Try.sizeOf22, addr_add]
  rcases hi with rfl | rfl
  · exact ⟨c.A0, c.c0, hix, h.obj.cell (i := 2) rfl, h.q0⟩
  · exact ⟨c.A1, c.c1, hix, h.obj.cell (i := 3) rfl, h.q1⟩
theorem sealed_is {i : Int} (h : sealedP s i = true) : s.dead = false ∧ (i = 0 ∨ i = 1) := by
  unfold sealedP at h
  simp at h
  exact h
set_option maxRecDepth 100000 in
set_option maxHeartbeats 4000000 in
theorem look_calls (h : WdAt w g K c s) (hf : Few s) (i : Int) : Calls Try.prog 22 #[.pointer (some ⟨g, 0, none⟩), .int .i64 i] w (RetW g K (lookP s i) (lookB s i) w) := by
  have HW := Hd.mk h
  have HF := Hd.mk hf
  cases ht : sealedP s i
  · have H1 : Hd (lookP s i = s ∧ lookB s i = []) := ⟨by unfold lookP lookB; rw [ht]; exact ⟨rfl, rfl⟩⟩
    have HT := Hd.mk ht
    clear h hf ht
    go_enter Try.func22, Try.ntmps22
    go_wp2_with (go_at_call 39; refine (sealed_calls HW.out i).mono ?_; rw [HT.out]; rintro e w1 ⟨rfl, hw⟩; obtain rfl := hw.symm)
    go_ret
    rw [H1.out.1, H1.out.2]
    exact ⟨_, K, c, rfl, World.ownsRow_nil _ _ _ _, fun k hk => (by cases hk), HW.out, Stp.refl _ _, fun _ _ => rfl⟩
  · have H1 : Hd (lookP s i = noteP (toldP s) 3 i 0 (toldB s (sealOf s i)) ∧ lookB s i = toldB s (sealOf s i)) := ⟨by unfold lookP lookB; rw [ht]; exact ⟨rfl, rfl⟩⟩
    have HT := Hd.mk ht
    obtain ⟨AS, cs, hix, hcs, hrow⟩ := seal_at h i (sealed_is ht).2
    have hsl : (sealOf s i).length ≤ 1099511627776 := by unfold sealOf; split; exact hf.s0; exact hf.s1
    have HSL := Hd.mk hsl
    have HRW := Hd.mk hrow
    have HTB := Hd.mk (toldB_len hf (sealOf s i) hsl)
    have hTR : s.trace.length ≤ 1000000 := hf.trace
    have HTR := Hd.mk hTR
    clear h hf ht hTR hrow hsl
    go_enter Try.func22, Try.ntmps22
    go_wp2_with (first
      | (go_at_call 39; refine (sealed_calls HW.out i).mono ?_; rw [HT.out]; rintro e w1 ⟨rfl, hw⟩; obtain rfl := hw.symm)
      | (go_at_call 38; refine (told_calls HW.out AS (sealOf s i).length cs (sealOf s i) HRW.out.rc (fun ad e h2 => by have h3 := HRW.out.kd ad e; rw [h2, HW.out.kg] at h3; omega) rfl HSL.out (fun l hl => HF.out.lies _ l hl) HF.out.reads).mono ?_
         rintro e w3 ⟨v3, rfl, ho, hw3, hs3⟩
         obtain ⟨A3, c3, rfl, hc3, hr3, _⟩ := own_rc ho
         have HO3 := Hd.mk ho; have HW3 := Hd.mk hw3; have HS3 := Hd.mk hs3; have HR3 := Hd.mk hr3
         have HA3 : Hd (∀ ad, A3 = some ad → K ad.block ≠ 5) := ⟨fun ad e => by
           have h1 := own_lt ho ad.block (by rw [e]; rfl)
           by_cases e0 : K ad.block = 0
           · omega
           · have := HW.out.dom _ e0; omega⟩
         clear ho hw3 hs3 hc3 hr3)
      | (go_at_call 34; refine (note_calls HW3.out 3 i 0 A3 (toldB s (sealOf s i)).length c3 (toldB s (sealOf s i)) HR3.out (fun ad e _ => HA3.out ad e) rfl HTB.out (by rw [T_len HW3.out]; exact HTR.out)).mono ?_
         rintro e w4 ⟨rfl, K4, v4, x4, hw4, hs4, hk4⟩
         have HW4 := Hd.mk hw4; have HS4 := Hd.mk hs4; have HK4 := Hd.mk hk4
         clear hw4 hs4 hk4))
    go_ret
    rw [H1.out.1, H1.out.2]
    obtain ⟨h1, h2⟩ := told_noted HW.out.dom HO3.out HS4.out
    exact ⟨_, K4, _, rfl, h1, h2, HW4.out, HS3.out.trans HS4.out, HK4.out⟩
theorem own_fr {w1 : World} {n : Nat} {v : Value} {b : List UInt8} (ho : w1.ownsRow n 5 1 v b.length (bs b)) (h0 : ∀ k, v.ownBlock = some k → K k = 0) : ∃ A cap, v = .slice A b.length cap ∧ b.length ≤ cap ∧ Fr w1 K A b := by
  obtain ⟨A, cap, rfl, h1, h2, h3⟩ := own_rc ho
  refine ⟨A, cap, rfl, h1, h2, fun a e hb => ⟨?_, (h3 a e).2⟩⟩
  obtain ⟨g', cap', e2, _⟩ := own_form ho (List.length_pos_iff.2 hb)
  injection e2 with e2
  rw [e2] at e
  injection e with e
  rw [← e]
  exact h0 g' (by rw [e2]; rfl)
def RetWo (w0 : World) (g : Nat) (K : Nat → Nat) (s' : Wd) (b : List UInt8) (w : World) (e : Ending) (w' : World) : Prop :=
  ∃ A cap K', e = .returned (.slice A b.length cap) ∧ b.length ≤ cap ∧ Fr w' K' A b ∧ Wo w0 w' g K' s' ∧ Stp K K' w w'
theorem retWo {w0 : World} {s' : Wd} {b : List UInt8} {e : Ending} {w' : World} (h : Wo w0 w g K s) (hr : RetW g K s' b w e w') : RetWo w0 g K s' b w e w' := by
  obtain ⟨v, K', c', rfl, h1, h2, h3, h4, h5⟩ := hr
  obtain ⟨A, cap, rfl, h6, h7⟩ := own_fr h1 h2
  exact ⟨A, cap, K', rfl, h6, h7, h.step h3 h4, h4⟩
theorem wo_read {w0 : World} (h : Wo w0 w g K s) (hf : Few s) (a b : Int) : Calls Try.prog 13 #[.pointer (some ⟨g, 0, none⟩), .int .i64 a, .int .i64 b] w (RetWo w0 g K (readP s a b) (readB s a b) w) := by
  obtain ⟨c, hc⟩ := h.ex
  exact (read_calls hc hf a b).mono fun e w' hr => retWo h hr
theorem wo_look {w0 : World} (h : Wo w0 w g K s) (hf : Few s) (i : Int) : Calls Try.prog 22 #[.pointer (some ⟨g, 0, none⟩), .int .i64 i] w (RetWo w0 g K (lookP s i) (lookB s i) w) := by
  obtain ⟨c, hc⟩ := h.ex
  exact (look_calls hc hf i).mono fun e w' hr => retWo h hr
end
end Go.Proofs.Ytffhncpgknkkaaa
