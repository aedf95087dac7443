/- Walks of the functions that the law reaches. -/
import Derived.Test.YtpahmlgbljfcjaaProg
import Derived.Test.YtpahmlgbljfcjaaBase
namespace Go.Proofs.Ytpahmlgbljfcjaa
open Go.RowKit Go.Sac
set_option linter.unusedVariables false
set_option linter.unusedSimpArgs false

theorem mkfn (fn : Fn) (first cap : Array Value) (w : World) : (Instr.makeFunc fn first cap).run Try.prog w = .ok (.func fn first cap) w := rfl

set_option maxHeartbeats 400000 in
theorem differ (x y o : UInt8) (b : Nat) (w : World) (hc : w.cell? ⟨b, 0, none⟩ = some (.int .u8 (o.toNat : Int))) (hf : w.frozen? ⟨b, 0, none⟩ = false) :
    Calls Try.prog 15 #[.int .u8 (x.toNat : Int), .int .u8 (y.toNat : Int), .pointer (some ⟨b, 0, none⟩)] w fun e w' => e = .returned (.tuple #[]) ∧ w' = w.setCell ⟨b, 0, none⟩ (.int .u8 ((o ||| (x ^^^ y)).toNat : Int)) := by
  go_enter Try.func15, Try.ntmps15
  go_wp2
  go_end0
  exact ⟨rfl, by rw [bits_xor_u8, bits_or_u8]⟩

def gath (l m : List UInt8) : Nat → UInt8
  | 0 => 0
  | k + 1 => gath l m k ||| (l.getD k 0 ^^^ m.getD k 0)

theorem or_zero {a b : UInt8} : a ||| b = 0 ↔ a = 0 ∧ b = 0 := by
  constructor
  · intro h
    have := congrArg UInt8.toBitVec h
    simp at this
    exact ⟨UInt8.toBitVec_inj.1 this.1, UInt8.toBitVec_inj.1 this.2⟩
  · rintro ⟨rfl, rfl⟩; rfl
theorem xor_zero {a b : UInt8} : a ^^^ b = 0 ↔ a = b := by
  constructor
  · intro h
    have := congrArg UInt8.toBitVec h
    simp at this
    exact UInt8.toBitVec_inj.1 this
  · rintro rfl; simp
theorem gath_zero (l m : List UInt8) (k : Nat) : gath l m k = 0 ↔ ∀ i, i < k → l.getD i 0 = m.getD i 0 := by
  induction k with
  | zero => simp [gath]
  | succ k ih =>
    rw [gath, or_zero, ih, xor_zero]
    constructor
    · rintro ⟨h1, h2⟩ i hi
      rcases Nat.lt_succ_iff_lt_or_eq.1 hi with h | rfl
      · exact h1 i h
      · exact h2
    · intro h
      exact ⟨fun i hi => h i (by omega), h k (by omega)⟩
theorem gath_eq (l m : List UInt8) (h : m.length = l.length) : (((gath l m l.length).toNat : Int) == 0) = (l == m) := by
  rw [Bool.eq_iff_iff, beq_iff_eq, beq_iff_eq]
  have h0 : ((gath l m l.length).toNat : Int) = 0 ↔ gath l m l.length = 0 := by
    constructor
    · intro h; exact UInt8.toNat_inj.1 (by simpa using h)
    · intro h; rw [h]; rfl
  rw [h0, gath_zero]
  constructor
  · intro hi
    apply List.ext_getElem h.symm
    intro i h1 h2
    have := hi i h1
    simpa [List.getD_eq_getElem?_getD, h1, h2] using this
  · rintro rfl i _; rfl

set_option maxHeartbeats 400000 in
theorem equal_short (A B : Option Addr) (c d : Nat) (l m : List UInt8) (w : World) (h : l.length ≠ m.length) :
    Calls Try.prog 13 #[.slice A l.length c, .slice B m.length d] w fun e w' => e = .returned (.bool false) ∧ w' = w := by
  have h' : (((l.length : Int)) != (m.length : Int)) = true := by rw [bne_iff_ne]; omega
  go_enter Try.func13, Try.ntmps13
  go_wp2
  go_ret
  exact ⟨rfl, rfl⟩

set_option maxHeartbeats 400000 in
theorem equal_long (A B : Option Addr) (c d : Nat) (l m : List UInt8) (w : World) (hl : Rc w A (bs l)) (hm : Rc w B (bs m)) (h : m.length = l.length) (hn : l.length ≤ 9223372036854775807) :
    Calls Try.prog 13 #[.slice A l.length c, .slice B m.length d] w fun e w' => e = .returned (.bool (l == m)) ∧ w' = w.alloc (.cells #[.int .u8 (gath l m l.length).toNat] 5) := by
  have hmk := mkfn
  rw [h]
  have HL := Hd.mk hl
  have HM := Hd.mk hm
  have H := Hd.mk h
  clear hl hm h
  go_enter Try.func13, Try.ntmps13
  go_wp2
  go_loopw [17] (fun i wr => ∃ k : Nat, k ≤ l.length ∧ i = .int .i64 k ∧ wr = w.alloc (.cells #[.int .u8 (gath l m k).toNat] 5)) (fun i _ => l.length - (intOf i).toNat)
  case atStart => exact ⟨0, Nat.zero_le _, rfl, rfl⟩
  case round =>
    obtain ⟨k, hk, rfl, rfl⟩ := hrel
    by_cases hlt : k < l.length
    · obtain ⟨b, off, rfl, hb, hc⟩ := HL.out.form (by rw [bs_len]; omega)
      obtain ⟨b2, off2, rfl, hb2, hc2⟩ := HM.out.form (by rw [bs_len, H.out]; omega)
      have h1 := hc k _ (bs_at hlt)
      have h2 := hc2 k _ (bs_at (by rw [H.out]; exact hlt))
      have e : gath l m (k + 1) = gath l m k ||| (l[k] ^^^ m[k]'(by rw [H.out]; exact hlt)) := by
        simp [gath, List.getD_eq_getElem?_getD, List.getElem?_eq_getElem hlt, List.getElem?_eq_getElem (show k < m.length by rw [H.out]; exact hlt)]
      have E := Hd.mk e
      clear e hc hc2 HL HM
      go_wp2_with fail
      refine (differ _ _ (gath l m k) _ _ ?_ ?_).mono ?_
      · go_simp
      · go_simp
      rintro e w' ⟨rfl, rfl⟩
      go_wp2
      go_roundw
      case rel => exact ⟨k + 1, by omega, by go_num, by rw [E.out]; go_simp⟩
      case measure => simp [intOf]; omega
    · obtain rfl : k = l.length := by omega
      have e := Hd.mk (gath_eq l m H.out)
      go_wp2
      go_ret
      exact ⟨by rw [e.out]; rfl, rfl⟩
end Go.Proofs.Ytpahmlgbljfcjaa
