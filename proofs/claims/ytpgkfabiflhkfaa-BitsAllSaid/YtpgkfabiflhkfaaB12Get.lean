/- Walks: a row's bit; with it set; its bounds; its width. -/
import Derived.Test.YtpgkfabiflhkfaaR00Copy
import Derived.Test.YtpgkfabiflhkfaaP12
namespace Go.Proofs.Ytpgkfabiflhkfaa
open Go.RowKit Go.Sac
set_option linter.unusedVariables false
set_option linter.unusedSimpArgs false

theorem get_bit (b : List UInt8) (j : Nat) (hj : j / 8 < b.length) : (bits BinOp.and IntKind.u8 (((b[j / 8].toNat : Nat) : Int) / 2 ^ (j % 8)) 1 == 1) = getI b (j : Int) := by
  have e : (((b[j / 8].toNat : Nat) : Int) / 2 ^ (j % 8)) = ((b[j / 8].toNat / 2 ^ (j % 8) : Nat) : Int) := by rw [Int.natCast_ediv, Int.natCast_pow]; rfl
  have hx := b[j / 8].toNat_lt
  rw [e, show (1 : Int) = ((1 : Nat) : Int) from rfl, (bits_nat .u8 8 (by decide) (fun n h0 h1 => wrap_u8_small n h0 (by omega)) (b[j / 8].toNat / 2 ^ (j % 8)) 1 (Nat.lt_of_le_of_lt (Nat.div_le_self _ _) hx) (by decide)).1]
  have h1 : getI b (j : Int) = getT b j := by
    unfold getI
    rw [decide_eq_true (Int.natCast_nonneg j), decide_eq_true (show (j : Int) < 8 * b.length by omega)]; rfl
  rw [h1]
  unfold getT
  rw [List.getD_eq_getElem?_getD, List.getElem?_eq_getElem hj, Option.getD_some, Nat.testBit_eq_decide_div_mod_eq, Nat.and_one_is_mod]
  rw [Bool.eq_iff_iff]
  simp
  omega

set_option maxHeartbeats 1000000 in
theorem bget_calls (A : Option Addr) (c : Nat) (b : List UInt8) (i : Int) (w : World) (hb : Rc w A (bs b)) (hn : b.length ≤ 1099511627776) :
    Calls Try.prog 12 #[.slice A b.length c, .int .i64 i] w fun e w' => e = .returned (.bool (getI b i)) ∧ w' = w := by
  have HL := Hd.mk hb
  clear hb
  by_cases h0 : 0 ≤ i
  · by_cases h1 : i < 8 * (b.length : Int)
    · obtain ⟨j, rfl⟩ := Int.eq_ofNat_of_zero_le h0
      have hj : j / 8 < b.length := by omega
      obtain ⟨g, off, rfl, _, hc⟩ := HL.out.form (by rw [bs_len]; omega)
      have h2 := hc (j / 8) _ (bs_at hj)
      have HE := Hd.mk (get_bit b j hj)
      clear hc HL
      go_enter Try.func12, Try.ntmps12
      go_wp2
      go_ret
      exact ⟨by rw [← HE.out]; rfl, rfl⟩
    · have h1' : decide (i < 8 * (b.length : Int)) = false := by simpa using h1
      have hg : getI b i = false := by simp [getI, h1']
      rw [hg]
      clear hg
      go_enter Try.func12, Try.ntmps12
      go_wp2
      go_ret
      exact ⟨rfl, rfl⟩
  · have h0' : decide (0 ≤ i) = false := by simpa using h0
    have hg : getI b i = false := by simp [getI, h0']
    rw [hg]
    clear hg
    go_enter Try.func12, Try.ntmps12
    go_wp2
    go_ret
    exact ⟨rfl, rfl⟩
theorem bget_any (A : Option Addr) (n c : Nat) (b : List UInt8) (i : Int) (w : World) (hb : Rc w A (bs b)) (hn : b.length ≤ 1099511627776) (e1 : n = b.length) :
    Calls Try.prog 12 #[.slice A n c, .int .i64 i] w fun e w' => e = .returned (.bool (getI b i)) ∧ w' = w := by subst e1; exact bget_calls A c b i w hb hn

set_option maxHeartbeats 2000000 in
theorem bset_calls (A : Option Addr) (c : Nat) (b : List UInt8) (i : Int) (v : Bool) (w : World) (hb : Rc w A (bs b)) (hn : b.length ≤ 1099511627776) :
    Calls Try.prog 15 #[.slice A b.length c, .int .i64 i, .bool v] w fun e w' => RetB 5 (setI b i v) w e w' := by
  have HL := Hd.mk hb
  clear hb
  by_cases hr : 0 ≤ i ∧ i < 8 * (b.length : Int)
  · obtain ⟨h0, h1⟩ := hr
    obtain ⟨j, rfl⟩ := Int.eq_ofNat_of_zero_le h0
    have hj : j / 8 < b.length := by omega
    have hs : setI b (j : Int) v = setT b j v := by rw [setI, if_pos ⟨h0, h1⟩]; rfl
    rw [hs]
    clear hs
    go_enter Try.func15, Try.ntmps15
    go_wp2_with (at_builtin; refine app_rc w.heap.size 22 5 (.int .u8 0) 1 1 (.const (.slice none 0 0)) (.tmp 8) rfl rfl Try.underlying22 info_u8 rfl (by decide) (by decide) (.slice none 0 0) 0 [] (bs b) A b.length c rfl rfl (World.ownsRow_nil _ _ _ _) HL.out (by simp) bs_one (Nat.le_refl _) (by omega) b.length (bs b) (by omega) (by simp) ?_; intro v1 w1 ho hg hat; have HO := Hd.mk ho; have HB := Hd.mk (below_nil hg); clear ho hg hat)
    obtain ⟨g, cap, rfl, hg1, hg2⟩ := own_form HO.out (by omega)
    obtain ⟨hc, hf⟩ := own_at HO.out (bs_at hj)
    have i1 : (0 : Int) ≤ (j : Int) / 8 := by omega
    have i2 : (j : Int) / 8 < (b.length : Int) := by omega
    have hr8 : j % 8 < 8 := Nat.mod_lt _ (by decide)
    obtain ⟨x, hx⟩ : ∃ x, x = b[j / 8] := ⟨_, rfl⟩
    have hT : setT b j v = b.set (j / 8) (setB x (j % 8) v) := by rw [setT, List.getD_eq_getElem?_getD, List.getElem?_eq_getElem hj, Option.getD_some, hx]
    have HT := Hd.mk hT
    rw [← hx] at hc
    have H1 := Hd.mk (setB_off x (j % 8) hr8)
    have H2 := Hd.mk (setB_on (setB x (j % 8) false) (j % 8) hr8)
    have H3 := Hd.mk (setB_two x (j % 8) hr8)
    clear HL hT hx hr8
    go_region
    rw [H1.out]
    generalize hw2 : World.drew _ = w2
    have HO2 := Hd.mk (own_put hw2 HO.out)
    have HB2 := Hd.mk (below_put hw2 HB.out hg1)
    rw [show Value.int .u8 (((setB x (j % 8) false).toNat : Nat) : Int) = u8v (setB x (j % 8) false) from rfl, bs, ← List.map_set] at HO2
    have hj2 : j / 8 < (b.set (j / 8) (setB x (j % 8) false)).length := by simpa using hj
    obtain ⟨hc2, hf2⟩ := own_at HO2.out (bs_at hj2)
    have hz : (b.set (j / 8) (setB x (j % 8) false))[j / 8] = setB x (j % 8) false := by simp
    rw [hz] at hc2
    have HJ := Hd.mk hj2
    clear hw2 hc hf H1 hz hj2 hg2 HO HB
    cases v
    · go_wp2
      go_ret
      exact ⟨_, rfl, by rw [HT.out]; have := HO2.out; simpa using this, HB2.out⟩
    · go_wp2
      go_region
      rw [H2.out]
      generalize hw3 : World.drew _ = w3
      have HO3 := Hd.mk (own_put hw3 HO2.out)
      have HB3 := Hd.mk (below_put hw3 HB2.out hg1)
      rw [show Value.int .u8 (((setB (setB x (j % 8) false) (j % 8) true).toNat : Nat) : Int) = u8v (setB (setB x (j % 8) false) (j % 8) true) from rfl, ← List.map_set, H3.out, List.set_set] at HO3
      clear hw3 hc2 hf2 H2
      go_wp2
      go_ret
      exact ⟨_, rfl, by rw [HT.out]; have := HO3.out; simpa using this, HB3.out⟩
  · have hs : setI b i v = b := by rw [setI, if_neg hr]
    rw [hs]
    clear hs
    by_cases h0 : 0 ≤ i
    · have h1 : decide (i ≥ 8 * (b.length : Int)) = true := by simp; omega
      have h1' : 8 * (b.length : Int) ≤ i := by omega
      have h0' : decide (i < 0) = false := by simp; omega
      clear hr
      go_enter Try.func15, Try.ntmps15
      go_wp2_with (at_builtin; refine app_rc w.heap.size 22 5 (.int .u8 0) 1 1 (.const (.slice none 0 0)) (.tmp 8) rfl rfl Try.underlying22 info_u8 rfl (by decide) (by decide) (.slice none 0 0) 0 [] (bs b) A b.length c rfl rfl (World.ownsRow_nil _ _ _ _) HL.out (by simp) bs_one (Nat.le_refl _) (by omega) b.length (bs b) (by omega) (by simp) ?_; intro v1 w1 ho hg hat; have HO := Hd.mk ho; have HB := Hd.mk (below_nil hg); clear ho hg hat)
      go_ret
      exact ⟨_, rfl, HO.out, HB.out⟩
    · have h0' : decide (i < 0) = true := by simp; omega
      have h1 : i < 0 := by omega
      clear hr
      go_enter Try.func15, Try.ntmps15
      go_wp2_with (at_builtin; refine app_rc w.heap.size 22 5 (.int .u8 0) 1 1 (.const (.slice none 0 0)) (.tmp 8) rfl rfl Try.underlying22 info_u8 rfl (by decide) (by decide) (.slice none 0 0) 0 [] (bs b) A b.length c rfl rfl (World.ownsRow_nil _ _ _ _) HL.out (by simp) bs_one (Nat.le_refl _) (by omega) b.length (bs b) (by omega) (by simp) ?_; intro v1 w1 ho hg hat; have HO := Hd.mk ho; have HB := Hd.mk (below_nil hg); clear ho hg hat)
      go_ret
      exact ⟨_, rfl, HO.out, HB.out⟩
theorem bset_any (A : Option Addr) (n c : Nat) (b : List UInt8) (i : Int) (v : Bool) (w : World) (hb : Rc w A (bs b)) (hn : b.length ≤ 1099511627776) (e1 : n = b.length) :
    Calls Try.prog 15 #[.slice A n c, .int .i64 i, .bool v] w fun e w' => RetB 5 (setI b i v) w e w' := by subst e1; exact bset_calls A c b i v w hb hn
end Go.Proofs.Ytpgkfabiflhkfaa
