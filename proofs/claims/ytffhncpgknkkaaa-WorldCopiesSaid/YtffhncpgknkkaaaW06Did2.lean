/- W06Did2: one thing done to a world: what is told of a read; the counter set; what is traced. -/
import Derived.Test.YtffhncpgknkkaaaW06LawBumps
import Derived.Test.YtffhncpgknkkaaaW06Trace
namespace Go.Proofs.Ytffhncpgknkkaaa
open Go.RowKit Go.Sac
set_option linter.unusedVariables false
set_option linter.unusedSimpArgs false
section
variable {w w0 : World} {g : Nat} {K : Nat → Nat} {s : Wd}
set_option maxRecDepth 100000 in
set_option maxHeartbeats 4000000 in
theorem did1b (h : Wo w0 w g K s) (hf : Few s) (a t n : Int) (AB : Option Addr) (b : List UInt8) (c : Nat) :
    Calls Try.prog 25 #[.pointer (some ⟨g, 0, none⟩), .agg #[.int .i64 1, .int .i64 a, .int .i64 t, .int .i64 n, .slice AB b.length c]] w
      fun e w' => ∃ A cap K', e = .returned (.tuple #[.slice A (readB s a t).length cap, .bool false]) ∧ Fr w' K' A (readB s a t) ∧ Wo w0 w' g K' (readP s a t) ∧ Stp K K' w w' := by
  have h1 : Wo w0 (w.alloc (.cells #[.int .i64 1, .int .i64 a, .int .i64 t, .int .i64 n, .slice AB b.length c] 44)) g K s := h.below ((Below.refl _ _).alloc (Nat.le_refl _) _)
  have hs1 : Stp K K w (w.alloc (.cells #[.int .i64 1, .int .i64 a, .int .i64 t, .int .i64 n, .slice AB b.length c] 44)) := Stp.of_below ((Below.refl _ _).alloc (Nat.le_refl _) _)
  have HW := Hd.mk h1
  have HS := Hd.mk hs1
  have HF := Hd.mk hf
  clear h h1 hs1 hf
  go_enter Try.func25, Try.ntmps25
  go_wp2_with (go_at_call 13; refine (wo_read HW.out HF.out a t).mono ?_; rintro e w3 ⟨A3, c3, K3, rfl, _, hf3, h3, s3⟩; have H3 := Hd.mk h3; have S3 := Hd.mk s3; have F3 := Hd.mk hf3; clear h3 s3 hf3)
  go_ret2
  exact ⟨A3, c3, K3, rfl, F3.out, H3.out, HS.out.trans S3.out⟩
set_option maxRecDepth 100000 in
set_option maxHeartbeats 4000000 in
theorem did9 (h : Wo w0 w g K s) (a t n : Int) (v : Value) :
    Calls Try.prog 25 #[.pointer (some ⟨g, 0, none⟩), .agg #[.int .i64 9, .int .i64 a, .int .i64 t, .int .i64 n, v]] w (RetV w0 g K (setP s (IntKind.u64.wrap n)) false w) := by
  have h1 : Wo w0 (w.alloc (.cells #[.int .i64 9, .int .i64 a, .int .i64 t, .int .i64 n, v] 44)) g K s := h.below ((Below.refl _ _).alloc (Nat.le_refl _) _)
  have hs1 : Stp K K w (w.alloc (.cells #[.int .i64 9, .int .i64 a, .int .i64 t, .int .i64 n, v] 44)) := Stp.of_below ((Below.refl _ _).alloc (Nat.le_refl _) _)
  have HW := Hd.mk h1
  have HS := Hd.mk hs1
  clear h h1 hs1
  have hb : 0 ≤ IntKind.u64.wrap n ∧ IntKind.u64.wrap n < 18446744073709551616 := by rw [IntKind.wrap_u64]; omega
  have HB := Hd.mk hb
  clear hb
  go_enter Try.func25, Try.ntmps25
  go_wp2_with (go_at_call 24; refine (wo_set HW.out (IntKind.u64.wrap n) HB.out.1 HB.out.2).mono ?_; rintro e w3 ⟨rfl, K3, h3, s3⟩; have H3 := Hd.mk h3; have S3 := Hd.mk s3; clear h3 s3)
  go_ret2
  exact ⟨_, rfl, K3, H3.out, HS.out.trans S3.out⟩
end
/-- what one thing adds to the trace -/
def addT (s : Wd) (k a t : Int) (b : List UInt8) : List TV :=
  if k = 1 then (if thereP s a t = true then [(1, a, t, readB s a t)] else [])
  else if k = 2 then (if thereP s a t = true then [(2, a, t, b)] else [])
  else if k = 3 then (if sealedP s a = true then [(3, a, 0, lookB s a)] else [])
  else if k = 4 then (if sealedP s a = true then [(4, a, 0, b)] else [])
  else if k = 5 then (if bumpR s = true then [(5, 0, 0, [])] else []) else []
theorem takes_tr (s : Wd) (n : Int) : (takesP s n).trace = s.trace := by unfold takesP; split <;> rfl
theorem trace_step (s : Wd) (k a t n : Int) (b : List UInt8) : (doP s k a t n b).trace = s.trace ++ addT s k a t b := by
  unfold doP addT
  split
  · unfold readP readB; split <;> simp [noteP, toldP]
  split
  · unfold writeP; split
    · show (takesP _ _).trace = _; rw [takes_tr]; rfl
    · simp
  split
  · unfold lookP lookB; split <;> simp [noteP, toldP]
  split
  · unfold sealP; split
    · unfold sealS; split
      · show (takesP _ _).trace = _; rw [takes_tr]; rfl
      · show (takesP _ _).trace = _; rw [takes_tr]; rfl
    · simp
  split
  · unfold bumpP bumpR
    by_cases hd : s.dead = true
    · rw [if_pos hd, hd]; simp
    · have hd2 : s.dead = false := by simpa using hd
      rw [if_neg hd, hd2]
      by_cases hm : s.counter = 18446744073709551615
      · rw [if_pos hm]; simp [hm]
      · rw [if_neg hm]
        by_cases hk : takesK s 1 = 0
        · rw [if_pos hk, takes_tr]; simp [hk]
        · rw [if_neg hk]; simp [hk, hm, noteP, upP, takes_tr]
  split
  · simp [lieP]
  split
  · unfold armP; split <;> simp
  split
  · simp [restartP]
  · simp
theorem add_dead (s : Wd) (k a t : Int) (b : List UInt8) (h : s.dead = true) : addT s k a t b = [] := by
  unfold addT thereP sealedP bumpR
  rw [h]
  simp
theorem add_len (s : Wd) (k a t : Int) (b : List UInt8) : (addT s k a t b).length ≤ 1 := by
  unfold addT
  repeat' split
  all_goals simp
end Go.Proofs.Ytffhncpgknkkaaa
