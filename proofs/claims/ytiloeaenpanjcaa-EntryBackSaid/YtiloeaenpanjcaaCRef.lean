/- Walks of the functions that the law reaches. -/
import Derived.Test.YtiloeaenpanjcaaCPad
namespace Go.Proofs.Ytiloeaenpanjcaa
open Go.RowKit Go.Sac
set_option linter.unusedVariables false
set_option linter.unusedSimpArgs false

theorem putB_get (n m t : Nat) (h : t < m) : (putB n m)[t]'(by rw [putB_len]; exact h) = UInt8.ofNat (n / 256 ^ (m - 1 - t)) := by
  induction m generalizing t with
  | zero => omega
  | succ m ih =>
    rcases t with _ | t
    · simp [putB]
    · simp only [putB, List.getElem_cons_succ]
      rw [ih t (by omega)]
      congr 3
      omega
theorem putB_take (n m t : Nat) (h : t < m) : (putB n m).take (t + 1) = (putB n m).take t ++ [UInt8.ofNat (n / 256 ^ (m - 1 - t))] := by
  rw [List.take_succ_eq_append_getElem (by rw [putB_len]; exact h), putB_get n m t h]
def quo (n k : Nat) : Nat := n / 256 ^ k
def putT (n m k : Nat) : List UInt8 := (putB n m).take k
theorem putT_step (n m t : Nat) (h : t < m) : putT n m (t + 1) = putT n m t ++ [UInt8.ofNat (quo n (m - 1 - t))] := putB_take n m t h
theorem putT_all (n m : Nat) : putT n m m = putB n m := List.take_of_length_le (by rw [putB_len]; exact Nat.le_refl _)
theorem putT_len (n m k : Nat) (h : m ≤ 8) : (putT n m k).length ≤ 8 := by unfold putT; rw [List.length_take, putB_len]; omega
theorem rput_byte (x : Nat) : Value.int .u8 ((x : Int) % 256) = u8v (UInt8.ofNat x) := by
  unfold u8v; rw [UInt8.toNat_ofNat']; congr 1

set_option maxHeartbeats 400000 in
theorem rput_nil (n : Nat) (wide : Int) (w : World) (h : wide < 1) :
    Calls Try.prog 40 #[.int .u64 (n : Int), .int .i64 wide] w fun e w' => RetB 5 [] w e w' := by
  have h1 : decide (wide < 1) = true := by simpa using h
  go_enter Try.func40, Try.ntmps40
  go_wp2
  go_ret
  exact RetB.nil _ _ _ (Below.refl _ _)

set_option maxHeartbeats 400000 in
theorem rput_some (n : Nat) (wide : Int) (w : World) (h : ¬ wide < 1) (hn : n < 18446744073709551616) :
    Calls Try.prog 40 #[.int .u64 (n : Int), .int .i64 wide] w fun e w' => RetB 5 (putB n (putW wide)) w e w' := by
  obtain ⟨m, hm⟩ : ∃ m : Nat, min wide 8 = (m : Int) := ⟨(min wide 8).toNat, by omega⟩
  have hm8 : m ≤ 8 := by omega
  have hk : putW wide = m := by unfold putW; omega
  rw [hk]
  clear hk
  have h1 : decide (wide < 1) = false := by simpa using h
  go_enter Try.func40, Try.ntmps40
  go_wp2
  clear hm h1
  go_loopw [5, 6] (fun v i wr => ∃ k : Nat, k ≤ m ∧ i = .int .i64 ((m : Int) - 1 - k) ∧ Hd (wr.ownsRow w.heap.size 5 1 v (putT n m k).length (bs (putT n m k))) ∧ Hd (Below w.heap.size w wr)) (fun _ i _ => (1 + intOf i).toNat)
  case atStart => exact ⟨0, Nat.zero_le _, by go_num, ⟨World.ownsRow_nil _ _ _ _⟩, ⟨Below.refl _ _⟩⟩
  case round =>
    obtain ⟨k, hk, rfl, HO, HB⟩ := hrel
    obtain ⟨A1, c1, rfl, _, _, _⟩ := own_rc HO.out
    by_cases hlt : k < m
    · have ht := Hd.mk (putT_step n m k hlt)
      obtain ⟨j, hj⟩ : ∃ j : Nat, (m : Int) - 1 - k = j := ⟨m - 1 - k, by omega⟩
      have hj' : m - 1 - k = j := by omega
      rw [hj'] at ht
      rw [hj]
      have hlen := putT_len n m k hm8
      have hj8 : j < 8 := by omega
      have HLT := Hd.mk hlt
      clear hlt h
      have HJ := Hd.mk hj
      clear hj hj'
      go_wp2
      go_loop [7, 8] (fun x i => ∃ q : Nat, q ≤ j ∧ i = .int .i64 q ∧ x = .int .u64 (quo n q : Int)) (fun _ i => j - (intOf i).toNat)
      case atStart => exact ⟨0, Nat.zero_le _, by go_num, by simp [quo]⟩
      case round =>
        obtain ⟨q, hq, rfl, rfl⟩ := hrel
        have hb : quo n q < 18446744073709551616 := Nat.lt_of_le_of_lt (Nat.div_le_self _ _) hn
        by_cases hqj : q < j
        · have hd : Hd (quo n q / 256 = quo n (q + 1)) := ⟨by unfold quo; rw [Nat.div_div_eq_div_mul, Nat.pow_succ]⟩
          go_wp2
          go_round
          case rel => exact ⟨q + 1, by omega, by go_num, by rw [← hd.out]; go_num⟩
          case measure => simp [intOf]; omega
        · obtain rfl : q = j := by omega
          have hz := Hd.mk (rput_byte (quo n q))
          go_wp2_with (at_builtin; refine app_rc w.heap.size 42 5 (.int .u8 0) 1 1 (.tmp 26) (.tmp 30) rfl rfl Try.underlying42 info_u8 rfl (by decide) (by decide) (.slice A1 (putT n m k).length c1) (putT n m k).length (bs (putT n m k)) [Value.int .u8 ((quo n q : Int) % 256)] (some ⟨wr.heap.size, 0, none⟩) 1 1 rfl rfl (own_alloc HO.out _) (Rc.one _ _ _) (by simp) (by simp [Value.oneCell']) (Nat.le_trans HB.out.size (by simp)) (by omega) (putT n m (k + 1)).length (bs (putT n m (k + 1))) (by rw [ht.out, List.length_append]; rfl) (by rw [ht.out, hz.out]; simp) ?_; intro v1 w1 ho hg hat; have HO1 := Hd.mk ho; have HG := Hd.mk hg; clear ho hg hat)
          go_roundw
          case rel => exact ⟨k + 1, by have := HLT.out; omega, by have := HJ.out; go_num, HO1, ⟨below_lift (HB.out.alloc HB.out.size _) (Nat.le_trans HB.out.size (by simp)) HG.out (fun b hb => (own_lt HO.out b hb).1)⟩⟩
          case measure => simp [intOf]; have := HJ.out; omega
    · obtain rfl : k = m := by omega
      have hneg : decide ((0 : Int) ≤ (k : Int) - 1 - k) = false := by simp; omega
      go_wp2
      go_ret
      refine ⟨.slice A1 (putT n k k).length c1, rfl, ?_, HB.out⟩
      have := HO.out
      rwa [putT_all] at this ⊢
end Go.Proofs.Ytiloeaenpanjcaa
