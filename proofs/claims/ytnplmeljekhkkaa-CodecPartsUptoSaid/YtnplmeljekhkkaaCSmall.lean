/- Walks of the functions that the law reaches. -/
import Derived.Test.YtnplmeljekhkkaaCPut
namespace Go.Proofs.Ytnplmeljekhkkaa
open Go.RowKit Go.Sac
set_option linter.unusedVariables false
set_option linter.unusedSimpArgs false

set_option maxHeartbeats 400000 in
theorem copy_calls (A : Option Addr) (c : Nat) (l : List UInt8) (w : World) (hl : Rc w A (bs l)) (hn : l.length ≤ 1099511627776) :
    Calls Try.prog 11 #[.slice A l.length c] w fun e w' => RetB 5 l w e w' := by
  have HL := Hd.mk hl
  clear hl
  go_enter Try.func11, Try.ntmps11
  go_wp2_with (at_builtin; refine app_rc w.heap.size 22 5 (.int .u8 0) 1 1 (.tmp 4) (.tmp 5) rfl rfl Try.underlying22 info_u8 rfl (by decide) (by decide) (.slice none 0 0) 0 [] (bs l) A l.length c rfl rfl (World.ownsRow_nil _ _ _ _) HL.out (by simp) bs_one (Nat.le_refl _) (by omega) l.length (bs l) (by omega) (by simp) ?_; intro v1 w1 ho hg hat; have HO := Hd.mk ho; have HG := Hd.mk hg; clear ho hg hat)
  go_ret
  exact ⟨_, rfl, HO.out, below_lift (Below.refl _ _) (Nat.le_refl _) HG.out (by simp [Value.ownBlock])⟩

theorem str_eq (l m : List UInt8) : ((⟨l.toArray⟩ : ByteArray).toList == (⟨m.toArray⟩ : ByteArray).toList) = (l == m) := by
  have h : ∀ l : List UInt8, (⟨l.toArray⟩ : ByteArray).toList = l := fun l => by rw [ByteArray.toList_eq]
  rw [h, h]

set_option maxHeartbeats 400000 in
theorem same_calls (A B : Option Addr) (c d : Nat) (l m : List UInt8) (w : World) (hl : Rc w A (bs l)) (hm : Rc w B (bs m)) :
    Calls Try.prog 14 #[.slice A l.length c, .slice B m.length d] w fun e w' => e = .returned (.bool (l == m)) ∧ w' = w := by
  have h1 := run_str (P := Try.prog) w 22 5 9 Try.underlying22 Try.underlying5 Try.underlying9 A c l hl
  have h2 := run_str (P := Try.prog) w 22 5 9 Try.underlying22 Try.underlying5 Try.underlying9 B d m hm
  have HL := Hd.mk (str_eq l m)
  clear hl hm
  go_enter Try.func14, Try.ntmps14
  go_wp2
  go_ret
  exact ⟨by first | rfl | (rw [← HL.out]; rfl) | (simp), rfl⟩

/-- Bytes as a number, the greatest first. -/
def num (l : List UInt8) : Nat := l.foldl (fun n c => 256 * n + c.toNat) 0
theorem num_snoc (l : List UInt8) (c : UInt8) : num (l ++ [c]) = 256 * num l + c.toNat := by simp [num]
theorem num_take (l : List UInt8) (k : Nat) (h : k < l.length) : num (l.take (k + 1)) = 256 * num (l.take k) + l[k].toNat := by
  rw [List.take_succ_eq_append_getElem h, num_snoc]
theorem num_lt (l : List UInt8) : num l < 256 ^ l.length := by
  have h : ∀ (r : List UInt8), num r.reverse < 256 ^ r.length := by
    intro r
    induction r with
    | nil => simp [num]
    | cons c r ih =>
      rw [List.reverse_cons, num_snoc, List.length_cons, Nat.pow_succ]
      have := c.toNat_lt
      omega
  have := h l.reverse
  simpa using this
/-- the number of the last eight -/
def getB (l : List UInt8) : Nat := num (l.drop (l.length - 8))
theorem shl8 (n : Nat) (c : UInt8) (h : n < 72057594037927936) : bits .or .u64 (IntKind.u64.wrap ((n : Int) * 256)) (IntKind.u64.wrap (c.toNat : Int)) = ((256 * n + c.toNat : Nat) : Int) := by
  have hc := c.toNat_lt
  have hw : IntKind.u64.wrap ((n : Int) * 256) = ((n * 256 : Nat) : Int) := by
    simp [IntKind.wrap, IntKind.bits, IntKind.signed]; omega
  have hw2 : IntKind.u64.wrap (c.toNat : Int) = c.toNat := by simp [IntKind.wrap, IntKind.bits, IntKind.signed]; omega
  rw [hw, hw2, (bits_nat .u64 64 (by decide) (fun x h0 h1 => by simp [IntKind.wrap, IntKind.bits, IntKind.signed]; omega) (n * 256) c.toNat (by omega) (by omega)).2]
  congr 1
  have := Nat.shiftLeft_add_eq_or_of_lt (i := 8) (b := c.toNat) (by omega) n
  rw [Nat.shiftLeft_eq] at this
  rw [← this]; omega

set_option maxHeartbeats 400000 in
theorem get_calls (A : Option Addr) (c : Nat) (l : List UInt8) (w : World) (hl : Rc w A (bs l)) (hc : l.length ≤ c) (hn : l.length ≤ 1099511627776) :
    Calls Try.prog 22 #[.slice A l.length c] w fun e w' => e = .returned (.int .u64 (getB l : Int)) ∧ w' = w := by
  obtain ⟨m, hm⟩ : ∃ m : Nat, max 0 ((l.length : Int) - 8) = (m : Int) := ⟨(max 0 ((l.length : Int) - 8)).toNat, by omega⟩
  have hm2 : l.length - 8 = m := by omega
  obtain ⟨A1, hcut, hrc, _⟩ := cut_low (P := Try.prog) 22 5 Try.underlying22 info_u8 A l.length c m (by omega) hc
  have HL := Hd.mk (hrc w (bs l) (bs_len l) hl)
  unfold getB
  rw [hm2]
  rw [← List.map_drop] at HL
  have hlen : l.length - m = (l.drop m).length := by rw [List.length_drop]
  obtain ⟨d, hd⟩ : ∃ d, d = l.drop m := ⟨_, rfl⟩
  rw [← hd] at HL hlen ⊢
  have h8 : d.length ≤ 8 := by omega
  rw [hlen] at hcut
  clear hrc hl hlen hm2 hd
  have HM := Hd.mk hm
  go_enter Try.func22, Try.ntmps22
  go_wp2
  clear hcut hm
  go_loop [3, 13] (fun n i => ∃ k : Nat, k ≤ d.length ∧ i = .int .i64 k ∧ n = .int .u64 (num (d.take k) : Int)) (fun _ i => d.length - (intOf i).toNat)
  case atStart => exact ⟨0, Nat.zero_le _, rfl, rfl⟩
  case round =>
    obtain ⟨k, hk, rfl, rfl⟩ := hrel
    by_cases hlt : k < d.length
    · obtain ⟨b, off, rfl, hb, hc⟩ := HL.out.form (by rw [bs_len]; omega)
      have h1 := hc k _ (bs_at hlt)
      have hs := Hd.mk (num_take d k hlt)
      have hx := num_lt (d.take k)
      have hp : 256 ^ (d.take k).length ≤ 256 ^ 7 := Nat.pow_le_pow_right (by decide) (by rw [List.length_take]; omega)
      have h8 := Hd.mk (shl8 (num (d.take k)) d[k] (by omega))
      clear hx hp hc HL
      go_wp2
      go_round
      case rel => exact ⟨k + 1, by omega, by go_num, by rw [hs.out, ← h8.out]⟩
      case measure => simp [intOf]; omega
    · obtain rfl : k = d.length := by omega
      go_wp2
      go_ret
      exact ⟨by first | rfl | (rw [List.take_length]; rfl), rfl⟩

def m64 (n : Nat) : Int := (n : Int) % 18446744073709551616
theorem m64_step (n : Nat) (c : UInt8) : IntKind.u64.wrap (IntKind.u64.wrap (256 * m64 n) + IntKind.u64.wrap (c.toNat : Int)) = m64 (256 * n + c.toNat) := by
  unfold m64; simp [IntKind.wrap, IntKind.bits, IntKind.signed]; omega

set_option maxHeartbeats 400000 in
theorem rget_calls (A : Option Addr) (c : Nat) (l : List UInt8) (w : World) (hl : Rc w A (bs l)) (hc : l.length ≤ c) (hn : l.length ≤ 1099511627776) :
    Calls Try.prog 23 #[.slice A l.length c] w fun e w' => e = .returned (.int .u64 (m64 (num l))) ∧ w' = w := by
  have HL := Hd.mk hl
  clear hl
  go_enter Try.func23, Try.ntmps23
  go_wp2
  go_loop [3, 4] (fun n i => ∃ k : Nat, k ≤ l.length ∧ i = .int .i64 k ∧ n = .int .u64 (m64 (num (l.take k)))) (fun _ i => l.length - (intOf i).toNat)
  case atStart => exact ⟨0, Nat.zero_le _, rfl, rfl⟩
  case round =>
    obtain ⟨k, hk, rfl, rfl⟩ := hrel
    by_cases hlt : k < l.length
    · obtain ⟨b, off, rfl, hb, hc⟩ := HL.out.form (by rw [bs_len]; omega)
      have h1 := hc k _ (bs_at hlt)
      have hs := Hd.mk (num_take l k hlt)
      have h8 := Hd.mk (m64_step (num (l.take k)) l[k])
      clear hc HL
      go_wp2
      go_round
      case rel => exact ⟨k + 1, by omega, by go_num, by rw [hs.out, ← h8.out]⟩
      case measure => simp [intOf]; omega
    · obtain rfl : k = l.length := by omega
      go_wp2
      go_ret
      exact ⟨by first | rfl | (rw [List.take_length]; rfl), rfl⟩

/-- the number of the bytes is the number of the last eight, as far as it fits -/
theorem num_app (a b : List UInt8) : num (a ++ b) = num a * 256 ^ b.length + num b := by
  have h : ∀ (r : List UInt8), num (a ++ r.reverse) = num a * 256 ^ r.length + num r.reverse := by
    intro r
    induction r with
    | nil => simp [num]
    | cons c r ih =>
      rw [List.reverse_cons, ← List.append_assoc, num_snoc, num_snoc, ih, List.length_cons, Nat.pow_succ, Nat.mul_add, ← Nat.mul_assoc, Nat.mul_comm 256 (num a), Nat.mul_assoc (num a), Nat.mul_comm 256 (256 ^ _)]
      omega
  have := h b.reverse
  simpa using this
theorem get_m64 (l : List UInt8) : (getB l : Int) = m64 (num l) := by
  unfold getB m64
  have h := num_app (l.take (l.length - 8)) (l.drop (l.length - 8))
  rw [List.take_append_drop] at h
  have hlt := num_lt (l.drop (l.length - 8))
  by_cases h8 : l.length ≤ 8
  · have e : l.length - 8 = 0 := by omega
    rw [e] at h hlt ⊢
    simp only [List.drop_zero] at hlt ⊢
    have := Nat.pow_le_pow_right (n := 256) (by decide) h8
    omega
  · have e : (l.drop (l.length - 8)).length = 8 := by rw [List.length_drop]; omega
    rw [e] at h hlt
    omega
end Go.Proofs.Ytnplmeljekhkkaa
