/- Walks: the iterator over what is free. -/
import Derived.Test.YtpgkfabiflhkfaaBaseR
import Derived.Test.YtpgkfabiflhkfaaB12Ref3
namespace Go.Proofs.Ytpgkfabiflhkfaa
open Go.RowKit Go.Sac Go.Shelf
set_option linter.unusedVariables false
set_option linter.unusedSimpArgs false
attribute [local go_sem] Oper.semAt_some

theorem frT_pre (b : List UInt8) (lo k hi : Nat) (h : k ≤ hi) : frT b lo k <+: frT b lo hi := by
  obtain ⟨d, rfl⟩ := Nat.exists_eq_add_of_le h
  induction d with
  | zero => exact List.prefix_refl _
  | succ d ih => rw [← Nat.add_assoc, frT_succ]; exact (ih (by omega)).trans (List.prefix_append _ _)

set_option maxHeartbeats 1000000 in
theorem free_calls (A : Option Addr) (n c : Nat) (f t : Int) (w : World) :
    Calls Try.prog 25 #[.slice A n c, .int .i64 f, .int .i64 t] w fun e w' =>
      e = .returned (.func (.func 29) #[] #[.pointer (some ⟨w.heap.size, 0, none⟩), .pointer (some ⟨w.heap.size + 1, 0, none⟩), .pointer (some ⟨w.heap.size + 1 + 1, 0, none⟩)]) ∧
      w' = ((w.alloc (.cells #[.slice A n c] 22)).alloc (.cells #[.int .i64 f] 3)).alloc (.cells #[.int .i64 t] 3) := by
  go_enter Try.func25, Try.ntmps25
  go_wp2
  go_ret
  exact ⟨rfl, rfl⟩

set_option maxRecDepth 100000 in
set_option maxHeartbeats 4000000 in
theorem free1_in (l n₀ n₁ n₂ : Nat) (A : Option Addr) (c : Nat) (b : List UInt8) (f t : Int) (J Jx : List Int → World → Prop)
    (hY : ∀ pre x W, J pre W → pre.length < 8 * b.length → YieldAt Fence.wide (3 - 1) Try.prog l #[.int .i64 x] W fun e W' =>
      (e = .returned (.bool true) ∧ J (pre ++ [x]) W' ∧ KeepR n₀ n₁ n₂ W W') ∨ (e = .returned (.bool false) ∧ Jx (pre ++ [x]) W'))
    (w0 W : World) (hw0 : w0.heap.size = n₀) (hB0 : Below n₀ w0 W) (hA : Rc w0 A (bs b)) (hn : b.length ≤ 1099511627776) (h12 : n₁ + 3 = n₂)
    (hBa : Boxed W n₁ 22 (.slice A b.length c)) (hBf : Boxed W (n₁ + 1) 3 (.int .i64 f)) (hBt : Boxed W (n₁ + 1 + 1) 3 (.int .i64 t)) (h0 : J [] W) :
    CallsIn Fence.wide 3 Try.prog 29 #[.func (.yield l) #[] #[], .pointer (some ⟨n₁, 0, none⟩), .pointer (some ⟨n₁ + 1, 0, none⟩), .pointer (some ⟨n₁ + 1 + 1, 0, none⟩)] W fun e W' => (∃ v, e = .returned v) ∧
      ((∃ ys, ys = frT b f.toNat (hiT b t) ∧ J ys W') ∨ (∃ pre, pre <+: frT b f.toNat (hiT b t) ∧ Jx pre W')) := by
  obtain ⟨lo, hlo, hlo2⟩ : ∃ lo : Nat, max f 0 = (lo : Int) ∧ f.toNat = lo := ⟨f.toNat, by omega, rfl⟩
  obtain ⟨z, hz, hz2⟩ : ∃ z : Int, min t (8 * (b.length : Int)) = z ∧ hiT b t = z.toNat := ⟨_, rfl, rfl⟩
  have hz3 : z ≤ 8 * (b.length : Int) := by omega
  rw [hlo2, hz2]
  clear hlo2 hz2
  have c1 := hBa.cell
  have c2 := hBf.cell
  have c3 := hBt.cell
  refine callsIn_of_wp Try.func29 rfl trivial ?_ rfl
  simp only [Try.ntmps29, List.size_toArray, List.length_cons, List.length_nil, Nat.reduceAdd, Nat.reduceSub, Array.replicate_succ, Array.replicate_zero, List.push_toArray, List.append_toArray, List.nil_append, List.cons_append]
  gi_wp2_with (refine ⟨trivial, ?_⟩; gi_at_call 27; refine (callsIn_wide.2 (clip_any _ _ _ b _ _ _ _ _ hn rfl hlo hz)).mono ?_; rintro e w' ⟨rfl, rfl⟩)
  clear c1 c2 c3 hlo hz
  gi_loopw [7] (fun i wr => ∃ k : Nat, i = .int .i64 k ∧ lo ≤ k ∧ ((k : Int) ≤ z ∨ k = lo) ∧ J (frT b lo k) wr ∧ KeepR n₀ n₁ n₂ w' wr) (fun i _ => 8 * b.length - (intOf i).toNat)
  case atStart => exact ⟨lo, rfl, Nat.le_refl _, .inr rfl, by rw [frT_low b lo lo (Nat.le_refl _)]; exact h0, KeepR.refl _ _ _ _⟩
  case round =>
    obtain ⟨k, rfl, hk1, hk2, hJ, hK⟩ := hrel
    by_cases hlt : (k : Int) < z
    · have hlt8 : k < 8 * b.length := by omega
      have c1 := (hK.boxed hBa (by omega) (by omega)).cell
      have hR0 := hA.below (w' := wr) (by rw [hw0]; exact hB0.trans hK.1)
      cases hg : getT b k
      · have HG : Hd (getI b (k : Int) = false) := ⟨by rw [getI_nat b k hlt8]; exact hg⟩
        have HS : Hd (frT b lo (k + 1) = frT b lo k ++ [(k : Int)]) := ⟨by rw [frT_succ, if_pos ⟨hk1, hg⟩]⟩
        obtain ⟨fn, tmps, assign, body, hy, hR⟩ := hY _ (k : Int) wr hJ (Nat.lt_of_le_of_lt (frT_len b lo k) hlt8)
        clear hg
        gi_wp2_with (refine ⟨trivial, ?_⟩; gi_at_call 12; refine (callsIn_wide.2 (bget_any _ _ _ b _ _ hR0 hn rfl)).mono ?_; rintro e w2 ⟨rfl, rfl⟩; rw [HG.out])
        refine hR.mono ?_
        rintro e W3 (⟨rfl, hJ3, hk3⟩ | ⟨rfl, hJx3⟩)
        · gi_wp2
          go_roundw
          case rel => exact ⟨k + 1, by go_num, by omega, by omega, by rw [HS.out]; exact hJ3, keepR_t hK hk3⟩
          case measure => simp [intOf]; omega
        · gi_wp2
          refine bodyPost_ret (results_none rfl _ _ _) rfl ?_
          refine ⟨⟨_, rfl⟩, .inr ⟨frT b lo (k + 1), frT_pre b lo (k + 1) z.toNat (by omega), ?_⟩⟩
          rw [HS.out]; exact hJx3
      · have HG : Hd (getI b (k : Int) = true) := ⟨by rw [getI_nat b k hlt8]; exact hg⟩
        have HS : Hd (frT b lo (k + 1) = frT b lo k) := ⟨by rw [frT_succ, if_neg (by rw [hg]; simp), List.append_nil]⟩
        clear hg
        gi_wp2_with (refine ⟨trivial, ?_⟩; gi_at_call 12; refine (callsIn_wide.2 (bget_any _ _ _ b _ _ hR0 hn rfl)).mono ?_; rintro e w2 ⟨rfl, rfl⟩; rw [HG.out])
        refine ⟨fun _ h => (by cases h), ?_⟩
        gi_wp2
        go_roundw
        case rel => exact ⟨k + 1, by go_num, by omega, by omega, by rw [HS.out]; exact hJ, hK⟩
        case measure => simp [intOf]; omega
    · have he : frT b lo k = frT b lo z.toNat := by
        rcases hk2 with h | h
        · congr 1; omega
        · rw [frT_low b lo k (by omega), frT_low b lo z.toNat (by omega)]
      gi_wp2
      go_end0
      exact ⟨⟨_, rfl⟩, .inl (he ▸ hJ)⟩
end Go.Proofs.Ytpgkfabiflhkfaa
