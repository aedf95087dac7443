/- W06Did: one thing done to a world. -/
import Derived.Test.YtffhncpgknkkaaaW06Do
namespace Go.Proofs.Ytffhncpgknkkaaa
open Go.RowKit Go.Sac
set_option linter.unusedVariables false
set_option linter.unusedSimpArgs false
def doP (s : Wd) (k a t n : Int) (b : List UInt8) : Wd :=
  if k = 1 then readP s a t else if k = 2 then writeP s a t b else if k = 3 then lookP s a else if k = 4 then sealP s a b else if k = 5 then bumpP s else if k = 6 then lieP s n b else if k = 7 then armP s n else if k = 8 then restartP s else s
def doR (s : Wd) (k a t : Int) (b : List UInt8) : Bool := if k = 2 then writeR s a t b else if k = 4 then sealR s a b else if k = 5 then bumpR s else false
section
variable {w w0 : World} {g : Nat} {K : Nat → Nat} {s : Wd}
def RetV (w0 : World) (g : Nat) (K : Nat → Nat) (s' : Wd) (r : Bool) (w : World) (e : Ending) (w' : World) : Prop :=
  ∃ v, e = .returned (.tuple #[v, .bool r]) ∧ ∃ K', Wo w0 w' g K' s' ∧ Stp K K' w w'
set_option maxRecDepth 100000 in
set_option maxHeartbeats 4000000 in
theorem did1 (h : Wo w0 w g K s) (hf : Few s) (a t n : Int) (AB : Option Addr) (b : List UInt8) (c : Nat) (hr : Fr w K AB b) (hc : b.length ≤ c) (hb : b.length ≤ 1099511627776) :
    Calls Try.prog 25 #[.pointer (some ⟨g, 0, none⟩), .agg #[.int .i64 1, .int .i64 a, .int .i64 t, .int .i64 n, .slice AB b.length c]] w (RetV w0 g K (doP s 1 a t n b) (doR s 1 a t b) w) := by
  have h1 : Wo w0 (w.alloc (.cells #[.int .i64 1, .int .i64 a, .int .i64 t, .int .i64 n, .slice AB b.length c] 44)) g K s := h.below ((Below.refl _ _).alloc (Nat.le_refl _) _)
  have hs1 : Stp K K w (w.alloc (.cells #[.int .i64 1, .int .i64 a, .int .i64 t, .int .i64 n, .slice AB b.length c] 44)) := Stp.of_below ((Below.refl _ _).alloc (Nat.le_refl _) _)
  have HW := Hd.mk h1
  have HS := Hd.mk hs1
  clear h h1 hs1
  have HF := Hd.mk hf
  have HFR := Hd.mk hr
  have HC := Hd.mk hc
  have HB := Hd.mk hb
  clear hf hr hc hb
  go_enter Try.func25, Try.ntmps25
  go_wp2_with (go_at_call 13; refine (wo_read HW.out HF.out a t).mono ?_; rintro e w3 ⟨A3, c3, K3, rfl, _, _, h3, s3⟩; have H3 := Hd.mk h3; have S3 := Hd.mk s3; clear h3 s3)
  go_ret2
  exact ⟨_, rfl, K3, H3.out, HS.out.trans S3.out⟩
set_option maxRecDepth 100000 in
set_option maxHeartbeats 4000000 in
theorem did2 (h : Wo w0 w g K s) (hf : Few s) (a t n : Int) (AB : Option Addr) (b : List UInt8) (c : Nat) (hr : Fr w K AB b) (hc : b.length ≤ c) (hb : b.length ≤ 1099511627776) :
    Calls Try.prog 25 #[.pointer (some ⟨g, 0, none⟩), .agg #[.int .i64 2, .int .i64 a, .int .i64 t, .int .i64 n, .slice AB b.length c]] w (RetV w0 g K (doP s 2 a t n b) (doR s 2 a t b) w) := by
  have h1 : Wo w0 (w.alloc (.cells #[.int .i64 2, .int .i64 a, .int .i64 t, .int .i64 n, .slice AB b.length c] 44)) g K s := h.below ((Below.refl _ _).alloc (Nat.le_refl _) _)
  have hs1 : Stp K K w (w.alloc (.cells #[.int .i64 2, .int .i64 a, .int .i64 t, .int .i64 n, .slice AB b.length c] 44)) := Stp.of_below ((Below.refl _ _).alloc (Nat.le_refl _) _)
  have HW := Hd.mk h1
  have HS := Hd.mk hs1
  clear h h1 hs1
  have HF := Hd.mk hf
  have HFR := Hd.mk hr
  have HC := Hd.mk hc
  have HB := Hd.mk hb
  clear hf hr hc hb
  go_enter Try.func25, Try.ntmps25
  go_wp2_with (go_at_call 12; refine (wo_write HW.out HF.out a t AB _ c b (HFR.out.step HS.out) rfl HB.out).mono ?_; rintro e w3 ⟨rfl, K3, h3, s3⟩; have H3 := Hd.mk h3; have S3 := Hd.mk s3; clear h3 s3)
  go_ret2
  exact ⟨_, rfl, K3, H3.out, HS.out.trans S3.out⟩
set_option maxRecDepth 100000 in
set_option maxHeartbeats 4000000 in
theorem did3 (h : Wo w0 w g K s) (hf : Few s) (a t n : Int) (AB : Option Addr) (b : List UInt8) (c : Nat) (hr : Fr w K AB b) (hc : b.length ≤ c) (hb : b.length ≤ 1099511627776) :
    Calls Try.prog 25 #[.pointer (some ⟨g, 0, none⟩), .agg #[.int .i64 3, .int .i64 a, .int .i64 t, .int .i64 n, .slice AB b.length c]] w (RetV w0 g K (doP s 3 a t n b) (doR s 3 a t b) w) := by
  have h1 : Wo w0 (w.alloc (.cells #[.int .i64 3, .int .i64 a, .int .i64 t, .int .i64 n, .slice AB b.length c] 44)) g K s := h.below ((Below.refl _ _).alloc (Nat.le_refl _) _)
  have hs1 : Stp K K w (w.alloc (.cells #[.int .i64 3, .int .i64 a, .int .i64 t, .int .i64 n, .slice AB b.length c] 44)) := Stp.of_below ((Below.refl _ _).alloc (Nat.le_refl _) _)
  have HW := Hd.mk h1
  have HS := Hd.mk hs1
  clear h h1 hs1
  have HF := Hd.mk hf
  have HFR := Hd.mk hr
  have HC := Hd.mk hc
  have HB := Hd.mk hb
  clear hf hr hc hb
  go_enter Try.func25, Try.ntmps25
  go_wp2_with (go_at_call 22; refine (wo_look HW.out HF.out a).mono ?_; rintro e w3 ⟨A3, c3, K3, rfl, _, _, h3, s3⟩; have H3 := Hd.mk h3; have S3 := Hd.mk s3; clear h3 s3)
  go_ret2
  exact ⟨_, rfl, K3, H3.out, HS.out.trans S3.out⟩
set_option maxRecDepth 100000 in
set_option maxHeartbeats 4000000 in
theorem did4 (h : Wo w0 w g K s) (hf : Few s) (a t n : Int) (AB : Option Addr) (b : List UInt8) (c : Nat) (hr : Fr w K AB b) (hc : b.length ≤ c) (hb : b.length ≤ 1099511627776) :
    Calls Try.prog 25 #[.pointer (some ⟨g, 0, none⟩), .agg #[.int .i64 4, .int .i64 a, .int .i64 t, .int .i64 n, .slice AB b.length c]] w (RetV w0 g K (doP s 4 a t n b) (doR s 4 a t b) w) := by
  have h1 : Wo w0 (w.alloc (.cells #[.int .i64 4, .int .i64 a, .int .i64 t, .int .i64 n, .slice AB b.length c] 44)) g K s := h.below ((Below.refl _ _).alloc (Nat.le_refl _) _)
  have hs1 : Stp K K w (w.alloc (.cells #[.int .i64 4, .int .i64 a, .int .i64 t, .int .i64 n, .slice AB b.length c] 44)) := Stp.of_below ((Below.refl _ _).alloc (Nat.le_refl _) _)
  have HW := Hd.mk h1
  have HS := Hd.mk hs1
  clear h h1 hs1
  have HF := Hd.mk hf
  have HFR := Hd.mk hr
  have HC := Hd.mk hc
  have HB := Hd.mk hb
  clear hf hr hc hb
  go_enter Try.func25, Try.ntmps25
  go_wp2_with (go_at_call 21; refine (wo_seal HW.out HF.out a AB _ c b (HFR.out.step HS.out) rfl HC.out HB.out).mono ?_; rintro e w3 ⟨rfl, K3, h3, s3⟩; have H3 := Hd.mk h3; have S3 := Hd.mk s3; clear h3 s3)
  go_ret2
  exact ⟨_, rfl, K3, H3.out, HS.out.trans S3.out⟩
set_option maxRecDepth 100000 in
set_option maxHeartbeats 4000000 in
theorem did5 (h : Wo w0 w g K s) (hf : Few s) (a t n : Int) (AB : Option Addr) (b : List UInt8) (c : Nat) (hr : Fr w K AB b) (hc : b.length ≤ c) (hb : b.length ≤ 1099511627776) :
    Calls Try.prog 25 #[.pointer (some ⟨g, 0, none⟩), .agg #[.int .i64 5, .int .i64 a, .int .i64 t, .int .i64 n, .slice AB b.length c]] w (RetV w0 g K (doP s 5 a t n b) (doR s 5 a t b) w) := by
  have h1 : Wo w0 (w.alloc (.cells #[.int .i64 5, .int .i64 a, .int .i64 t, .int .i64 n, .slice AB b.length c] 44)) g K s := h.below ((Below.refl _ _).alloc (Nat.le_refl _) _)
  have hs1 : Stp K K w (w.alloc (.cells #[.int .i64 5, .int .i64 a, .int .i64 t, .int .i64 n, .slice AB b.length c] 44)) := Stp.of_below ((Below.refl _ _).alloc (Nat.le_refl _) _)
  have HW := Hd.mk h1
  have HS := Hd.mk hs1
  clear h h1 hs1
  have HF := Hd.mk hf
  have HFR := Hd.mk hr
  have HC := Hd.mk hc
  have HB := Hd.mk hb
  clear hf hr hc hb
  go_enter Try.func25, Try.ntmps25
  go_wp2_with (go_at_call 18; refine (wo_bump HW.out HF.out.trace).mono ?_; rintro e w3 ⟨rfl, K3, h3, s3⟩; have H3 := Hd.mk h3; have S3 := Hd.mk s3; clear h3 s3)
  go_ret2
  exact ⟨_, rfl, K3, H3.out, HS.out.trans S3.out⟩
set_option maxRecDepth 100000 in
set_option maxHeartbeats 4000000 in
theorem did6 (h : Wo w0 w g K s) (hf : Few s) (a t n : Int) (AB : Option Addr) (b : List UInt8) (c : Nat) (hr : Fr w K AB b) (hc : b.length ≤ c) (hb : b.length ≤ 1099511627776) :
    Calls Try.prog 25 #[.pointer (some ⟨g, 0, none⟩), .agg #[.int .i64 6, .int .i64 a, .int .i64 t, .int .i64 n, .slice AB b.length c]] w (RetV w0 g K (doP s 6 a t n b) (doR s 6 a t b) w) := by
  have h1 : Wo w0 (w.alloc (.cells #[.int .i64 6, .int .i64 a, .int .i64 t, .int .i64 n, .slice AB b.length c] 44)) g K s := h.below ((Below.refl _ _).alloc (Nat.le_refl _) _)
  have hs1 : Stp K K w (w.alloc (.cells #[.int .i64 6, .int .i64 a, .int .i64 t, .int .i64 n, .slice AB b.length c] 44)) := Stp.of_below ((Below.refl _ _).alloc (Nat.le_refl _) _)
  have HW := Hd.mk h1
  have HS := Hd.mk hs1
  clear h h1 hs1
  have HF := Hd.mk hf
  have HFR := Hd.mk hr
  have HC := Hd.mk hc
  have HB := Hd.mk hb
  clear hf hr hc hb
  go_enter Try.func25, Try.ntmps25
  go_wp2_with (go_at_call 14; refine (wo_lie HW.out n AB _ c b (HFR.out.step HS.out).rc rfl HB.out).mono ?_; rintro e w3 ⟨rfl, K3, h3, s3⟩; have H3 := Hd.mk h3; have S3 := Hd.mk s3; clear h3 s3)
  go_ret2
  exact ⟨_, rfl, K3, H3.out, HS.out.trans S3.out⟩
set_option maxRecDepth 100000 in
set_option maxHeartbeats 4000000 in
theorem did7 (h : Wo w0 w g K s) (hf : Few s) (a t n : Int) (AB : Option Addr) (b : List UInt8) (c : Nat) (hr : Fr w K AB b) (hc : b.length ≤ c) (hb : b.length ≤ 1099511627776) :
    Calls Try.prog 25 #[.pointer (some ⟨g, 0, none⟩), .agg #[.int .i64 7, .int .i64 a, .int .i64 t, .int .i64 n, .slice AB b.length c]] w (RetV w0 g K (doP s 7 a t n b) (doR s 7 a t b) w) := by
  have h1 : Wo w0 (w.alloc (.cells #[.int .i64 7, .int .i64 a, .int .i64 t, .int .i64 n, .slice AB b.length c] 44)) g K s := h.below ((Below.refl _ _).alloc (Nat.le_refl _) _)
  have hs1 : Stp K K w (w.alloc (.cells #[.int .i64 7, .int .i64 a, .int .i64 t, .int .i64 n, .slice AB b.length c] 44)) := Stp.of_below ((Below.refl _ _).alloc (Nat.le_refl _) _)
  have HW := Hd.mk h1
  have HS := Hd.mk hs1
  clear h h1 hs1
  have HF := Hd.mk hf
  have HFR := Hd.mk hr
  have HC := Hd.mk hc
  have HB := Hd.mk hb
  clear hf hr hc hb
  go_enter Try.func25, Try.ntmps25
  go_wp2_with (go_at_call 16; refine (wo_arm HW.out n).mono ?_; rintro e w3 ⟨rfl, K3, h3, s3⟩; have H3 := Hd.mk h3; have S3 := Hd.mk s3; clear h3 s3)
  go_ret2
  exact ⟨_, rfl, K3, H3.out, HS.out.trans S3.out⟩
set_option maxRecDepth 100000 in
set_option maxHeartbeats 4000000 in
theorem did8 (h : Wo w0 w g K s) (hf : Few s) (a t n : Int) (AB : Option Addr) (b : List UInt8) (c : Nat) (hr : Fr w K AB b) (hc : b.length ≤ c) (hb : b.length ≤ 1099511627776) :
    Calls Try.prog 25 #[.pointer (some ⟨g, 0, none⟩), .agg #[.int .i64 8, .int .i64 a, .int .i64 t, .int .i64 n, .slice AB b.length c]] w (RetV w0 g K (doP s 8 a t n b) (doR s 8 a t b) w) := by
  have h1 : Wo w0 (w.alloc (.cells #[.int .i64 8, .int .i64 a, .int .i64 t, .int .i64 n, .slice AB b.length c] 44)) g K s := h.below ((Below.refl _ _).alloc (Nat.le_refl _) _)
  have hs1 : Stp K K w (w.alloc (.cells #[.int .i64 8, .int .i64 a, .int .i64 t, .int .i64 n, .slice AB b.length c] 44)) := Stp.of_below ((Below.refl _ _).alloc (Nat.le_refl _) _)
  have HW := Hd.mk h1
  have HS := Hd.mk hs1
  clear h h1 hs1
  have HF := Hd.mk hf
  have HFR := Hd.mk hr
  have HC := Hd.mk hc
  have HB := Hd.mk hb
  clear hf hr hc hb
  go_enter Try.func25, Try.ntmps25
  go_wp2_with (go_at_call 20; refine (wo_restart HW.out).mono ?_; rintro e w3 ⟨rfl, K3, h3, s3⟩; have H3 := Hd.mk h3; have S3 := Hd.mk s3; clear h3 s3)
  go_ret2
  exact ⟨_, rfl, K3, H3.out, HS.out.trans S3.out⟩
set_option maxRecDepth 100000 in
set_option maxHeartbeats 4000000 in
theorem did0 (h : Wo w0 w g K s) (k a t n : Int) (v : Value) (n1 : ¬ k = 1) (n2 : ¬ k = 2) (n3 : ¬ k = 3) (n4 : ¬ k = 4) (n5 : ¬ k = 5) (n6 : ¬ k = 6) (n7 : ¬ k = 7) (n8 : ¬ k = 8) (n9 : ¬ k = 9) :
    Calls Try.prog 25 #[.pointer (some ⟨g, 0, none⟩), .agg #[.int .i64 k, .int .i64 a, .int .i64 t, .int .i64 n, v]] w (RetV w0 g K s false w) := by
  have h1 : Wo w0 (w.alloc (.cells #[.int .i64 k, .int .i64 a, .int .i64 t, .int .i64 n, v] 44)) g K s := h.below ((Below.refl _ _).alloc (Nat.le_refl _) _)
  have hs1 : Stp K K w (w.alloc (.cells #[.int .i64 k, .int .i64 a, .int .i64 t, .int .i64 n, v] 44)) := Stp.of_below ((Below.refl _ _).alloc (Nat.le_refl _) _)
  have HW := Hd.mk h1
  have HS := Hd.mk hs1
  clear h h1 hs1
  have e1 : (k == 1) = false := by rw [beq_eq_false_iff_ne]; exact n1
  have e2 : (k == 2) = false := by rw [beq_eq_false_iff_ne]; exact n2
  have e3 : (k == 3) = false := by rw [beq_eq_false_iff_ne]; exact n3
  have e4 : (k == 4) = false := by rw [beq_eq_false_iff_ne]; exact n4
  have e5 : (k == 5) = false := by rw [beq_eq_false_iff_ne]; exact n5
  have e6 : (k == 6) = false := by rw [beq_eq_false_iff_ne]; exact n6
  have e7 : (k == 7) = false := by rw [beq_eq_false_iff_ne]; exact n7
  have e8 : (k == 8) = false := by rw [beq_eq_false_iff_ne]; exact n8
  have e9 : (k == 9) = false := by rw [beq_eq_false_iff_ne]; exact n9
  go_enter Try.func25, Try.ntmps25
  go_wp2_with fail
  go_ret2
  exact ⟨_, rfl, K, HW.out, HS.out⟩
theorem did_calls (h : Wo w0 w g K s) (hf : Few s) (x : Dd) (hr : Fr w K x.A x.b) (hc : x.b.length ≤ x.c) (hb : x.b.length ≤ 1099511627776) (h9 : ¬ x.kind = 9) :
    Calls Try.prog 25 #[.pointer (some ⟨g, 0, none⟩), .agg x.cells.toArray] w (RetV w0 g K (doP s x.kind x.at_ x.slot x.n x.b) (doR s x.kind x.at_ x.slot x.b) w) := by
  obtain ⟨k, a, t, n, A, b, c⟩ := x
  by_cases n1 : k = 1
  · subst n1; exact did1 h hf a t n A b c hr hc hb
  by_cases n2 : k = 2
  · subst n2; exact did2 h hf a t n A b c hr hc hb
  by_cases n3 : k = 3
  · subst n3; exact did3 h hf a t n A b c hr hc hb
  by_cases n4 : k = 4
  · subst n4; exact did4 h hf a t n A b c hr hc hb
  by_cases n5 : k = 5
  · subst n5; exact did5 h hf a t n A b c hr hc hb
  by_cases n6 : k = 6
  · subst n6; exact did6 h hf a t n A b c hr hc hb
  by_cases n7 : k = 7
  · subst n7; exact did7 h hf a t n A b c hr hc hb
  by_cases n8 : k = 8
  · subst n8; exact did8 h hf a t n A b c hr hc hb
  have ep : doP s k a t n b = s := by unfold doP; rw [if_neg n1, if_neg n2, if_neg n3, if_neg n4, if_neg n5, if_neg n6, if_neg n7, if_neg n8]
  have er : doR s k a t b = false := by unfold doR; rw [if_neg n2, if_neg n4, if_neg n5]
  dsimp only
  rw [ep, er]
  exact did0 h k a t n _ n1 n2 n3 n4 n5 n6 n7 n8 h9
end
end Go.Proofs.Ytffhncpgknkkaaa
