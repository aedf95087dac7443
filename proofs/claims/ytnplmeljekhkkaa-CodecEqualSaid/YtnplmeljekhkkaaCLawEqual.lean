/- Walks of the functions that the law reaches. -/
import Derived.Test.YtnplmeljekhkkaaCKnown
namespace Go.Proofs.Ytnplmeljekhkkaa
open Go.RowKit Go.Sac
set_option linter.unusedVariables false
set_option linter.unusedSimpArgs false

def RetTrue (w : World) (e : Ending) (w' : World) : Prop := e = .returned (.bool true) ∧ Below w.heap.size w w'

theorem copy_any (A : Option Addr) (n c : Nat) (l : List UInt8) (w : World) (hl : Rc w A (bs l)) (hn : l.length ≤ 1099511627776) (e1 : n = l.length) :
    Calls Try.prog 11 #[.slice A n c] w fun e w' => RetB 5 l w e w' := by subst e1; exact copy_calls A c l w hl hn

theorem flip_ne (x m : UInt8) (hm : m ≠ 0) : x ^^^ m ≠ x := by
  intro h
  apply hm
  have : x ^^^ (x ^^^ m) = x ^^^ x := by rw [h]
  rw [← UInt8.xor_assoc, UInt8.xor_self, UInt8.zero_xor] at this
  exact this
theorem pow_u8 (j : Nat) (hj : j < 8) : ∃ m : UInt8, ((2 : Int) ^ j % 256) = (m.toNat : Int) ∧ m ≠ 0 := by
  have h : ∀ j : Fin 8, ((2 : Int) ^ j.val % 256) = ((UInt8.ofNat (2 ^ j.val)).toNat : Int) ∧ UInt8.ofNat (2 ^ j.val) ≠ 0 := by decide
  exact ⟨_, h ⟨j, hj⟩⟩
theorem flip_val (x : UInt8) (bit : Int) : ∃ y : UInt8, bits .xor .u8 (x.toNat : Int) (2 ^ (bit % 8).toNat % 256) = (y.toNat : Int) ∧ y ≠ x := by
  obtain ⟨m, h1, h2⟩ := pow_u8 (bit % 8).toNat (by omega)
  exact ⟨x ^^^ m, by rw [h1, bits_xor_u8], flip_ne x m h2⟩

set_option maxHeartbeats 1000000 in
theorem lawEqual_long (A : Option Addr) (c : Nat) (b : List UInt8) (at_ bit : Int) (w : World) (h : 500 < b.length) (hn : b.length ≤ 9223372036854775807) :
    Calls Try.prog 3 #[.slice A b.length c, .int .u16 at_, .int .u8 bit] w fun e w' => RetTrue w e w' := by
  have h1 : decide (500 < b.length) = true := by simpa using h
  go_enter Try.func3, Try.ntmps3
  go_wp2_with (go_at_call 10; refine (known_calls _).mono ?_; rintro e w1 ⟨rfl, hb⟩)
  go_ret
  exact ⟨rfl, hb⟩

set_option maxHeartbeats 2000000 in
theorem lawEqual_short (A : Option Addr) (c : Nat) (b : List UInt8) (at_ bit : Int) (w : World) (h : ¬ 500 < b.length) (hr : Rc w A (bs b)) (hc : b.length ≤ c) (ha : 0 ≤ at_ ∧ at_ ≤ 65535) (hbit : 0 ≤ bit ∧ bit ≤ 255) :
    Calls Try.prog 3 #[.slice A b.length c, .int .u16 at_, .int .u8 bit] w fun e w' => RetTrue w e w' := by
  have h1 : decide (500 < b.length) = false := by simpa using h
  have HR := Hd.mk hr
  have HR0 := Hd.mk hr
  clear hr
  go_enter Try.func3, Try.ntmps3
  go_wp2_with fail
  refine (copy_any _ _ _ b _ HR.out (by omega) rfl).mono ?_
  rintro e w1 ⟨v, rfl, ho1, hb1⟩
  obtain ⟨A1, c1, rfl, hc1, hr1, hn1⟩ := own_rc ho1
  have HO1 := Hd.mk ho1
  have HB1 := Hd.mk hb1
  clear ho1 hb1 hr1 hn1
  go_wp2_with fail
  refine (copy_any _ _ _ b _ (HR.out.below HB1.out) (by omega) rfl).mono ?_
  rintro e w2 ⟨v, rfl, ho2, hb2⟩
  obtain ⟨A2, c2, rfl, hc2, hr2, hn2⟩ := own_rc ho2
  have HO2 := Hd.mk ho2
  have HB2 := Hd.mk hb2
  clear ho2 hb2 hr2 hn2
  go_wp2_with (at_builtin; refine app_rc w1.heap.size 22 5 (.int .u8 0) 1 1 (.tmp 18) (.tmp 19) rfl rfl Try.underlying22 info_u8 rfl (by decide) (by decide) (.slice A2 b.length c2) b.length (bs b) [.int .u8 0] (some ⟨w2.heap.size, 0, none⟩) 1 1 rfl rfl (own_alloc HO2.out _) (Rc.one _ _ _) (by simp) (by simp [Value.oneCell']) (Nat.le_trans HB2.out.size (by simp)) (by omega) (b.length + 1) (bs (b ++ [0])) rfl (by simp [u8v]) ?_; intro v1 w3 ho hg hat; have HO3 := Hd.mk ho; have HG3 := Hd.mk hg; clear ho hg hat)
  obtain ⟨A3, c3, rfl, hc3, hr3, hn3⟩ := own_rc HO3.out
  have HB3 : Hd (Below w1.heap.size w1 w3) := ⟨below_lift (HB2.out.alloc (HB2.out.size) _) (Nat.le_trans HB2.out.size (by simp)) HG3.out (fun k hk => (own_lt HO2.out k hk).1)⟩
  have HO1' := Hd.mk (own_below HO1.out HB3.out)
  obtain ⟨_, _, e, _, hr1, _⟩ := own_rc HO1'.out
  cases e
  have HR1 := Hd.mk hr1
  have HR3 := Hd.mk hr3
  have HR' := Hd.mk ((HR.out.below HB1.out).below HB3.out)
  clear hr3 hn3 hr1 hc3
  have e1 : (b == b) = true := by simp
  have e2 : (b == b ++ [0]) = false := by rw [beq_eq_false_iff_ne]; intro e; have := congrArg List.length e; simp at this
  have e3 : (b ++ [0] == b) = false := by rw [beq_eq_false_iff_ne]; intro e; have := congrArg List.length e; simp at this
  have E1 := Hd.mk e1
  have E2 := Hd.mk e2
  have E3 := Hd.mk e3
  clear e1 e2 e3
  go_wp2_with fail
  refine (equal_any _ _ _ _ _ _ b b _ HR'.out HR1.out (by omega) rfl rfl).mono ?_
  rintro e w4 ⟨rfl, hb4⟩
  have HB4 := Hd.mk hb4
  clear hb4
  rw [E1.out]
  go_wp2_with fail
  refine (equal_any _ _ _ _ _ _ b (b ++ [0]) _ (HR'.out.below HB4.out) (HR3.out.below HB4.out) (by omega) rfl (by simp)).mono ?_
  rintro e w5 ⟨rfl, hb5⟩
  have HB5 := Hd.mk hb5
  clear hb5
  rw [E2.out]
  go_wp2_with fail
  refine (equal_any _ _ _ _ _ _ (b ++ [0]) b _ ((HR3.out.below HB4.out).below HB5.out) ((HR'.out.below HB4.out).below HB5.out) (by simp; omega) (by simp) rfl).mono ?_
  rintro e w6 ⟨rfl, hb6⟩
  have HB6 := Hd.mk (below_then (below_then HB4.out HB4.out.size HB5.out) (Nat.le_trans HB4.out.size HB5.out.size) hb6)
  have HB06 : Hd (Below w.heap.size w w6) := ⟨below_then (below_then HB1.out HB1.out.size HB3.out) (Nat.le_trans HB1.out.size HB3.out.size) HB6.out⟩
  clear hb6
  rw [E3.out]
  have HO6 := Hd.mk (own_below HO1'.out HB6.out)
  have HR6 := Hd.mk (HR'.out.below HB6.out)
  clear HB4 HB5 HB6 HR' HR1 HR3 HO1' HO2 HO3 HG3 HB3 E1 E2 E3 HR HB1 HB2 HO1
  by_cases h0 : b.length = 0
  · have h0' : ((b.length : Int) == 0) = true := by rw [beq_iff_eq]; omega
    go_wp2_with fail
    refine (known_calls _).mono ?_
    rintro e w7 ⟨rfl, hb7⟩
    go_wp2
    go_ret
    exact ⟨rfl, below_then HB06.out HB06.out.size hb7⟩
  · have h0' : ((b.length : Int) == 0) = false := by rw [beq_eq_false_iff_ne]; omega
    have h0'' : ¬ (b = []) := fun e => h0 (by rw [e]; rfl)
    obtain ⟨g, cap, e, hgb, hgl⟩ := HO6.out.form (by omega)
    cases e
    have i0 : 0 ≤ at_ % (b.length : Int) := Int.emod_nonneg at_ (by omega)
    have i1 : at_ % (b.length : Int) < b.length := Int.emod_lt_of_pos at_ (by omega)
    obtain ⟨k, hk⟩ : ∃ k : Nat, k = (at_ % (b.length : Int)).toNat := ⟨_, rfl⟩
    have hkl : k < b.length := by omega
    obtain ⟨hx, hf⟩ := own_at HO6.out (bs_at hkl)
    have hx : w6.cell? ⟨g, (at_ % (b.length : Int)).toNat, none⟩ = some (.int .u8 (b[k].toNat : Int)) := by rw [← hk]; exact hx
    have hf : w6.frozen? ⟨g, (at_ % (b.length : Int)).toNat, none⟩ = false := by rw [← hk]; exact hf
    have HK := Hd.mk hk
    clear hk
    go_wp2_with fail
    obtain ⟨y, hy, hne⟩ := flip_val b[k] bit
    rw [hy, ← HK.out]
    obtain ⟨ho7, hg7⟩ := HO6.out.stored k (.int .u8 (y.toNat : Int))
    obtain ⟨w7, hw7⟩ : ∃ w7, w7 = w6.setCell ⟨g, k, none⟩ (.int .u8 (y.toNat : Int)) := ⟨_, rfl⟩
    rw [← hw7] at ho7 hg7 ⊢
    have hset : (bs b).set k (.int .u8 (y.toNat : Int)) = bs (b.set k y) := by rw [show Value.int .u8 (y.toNat : Int) = u8v y from rfl, bs, bs, List.map_set]
    rw [hset] at ho7
    obtain ⟨_, _, e, _, hr7, _⟩ := own_rc ho7
    cases e
    have hbne : (b == b.set k y) = false := by
      rw [beq_eq_false_iff_ne]; intro e
      have := congrArg (fun l => l[k]?) e
      simp [hkl] at this
      exact hne this.symm
    have HB7 : Hd (Below w.heap.size w w7) := ⟨below_lift HB06.out HB06.out.size hg7 (fun b hb => by injection hb with hb; omega)⟩
    have hrA : Rc w7 A (bs b) := HR6.out.grownE hg7 (fun a ha hne2 => by
      obtain ⟨b2, off2, e2, hlt2, _⟩ := HR0.out.form (List.length_pos_iff.2 hne2)
      rw [ha] at e2; injection e2 with e2; subst e2
      intro e3; injection e3 with e3; simp at e3; omega)
    have HRA := Hd.mk hrA
    have HR7 := Hd.mk hr7
    have HBNE := Hd.mk hbne
    clear hrA hr7 hbne hset ho7 hg7 hw7 hx hf hy hne HO6 HR6 HB06 HK
    refine (equal_any _ _ _ _ _ _ b (b.set k y) _ HRA.out HR7.out (by omega) rfl (by simp)).mono ?_
    rintro e w8 ⟨rfl, hb8⟩
    have HB8 := Hd.mk hb8
    clear hb8
    rw [HBNE.out]
    have hcutH := cut_high (P := Try.prog) 22 5 Try.underlying22 info_u8 A b.length c (b.length - 1) (by omega)
    rw [Int.natCast_sub (by omega)] at hcutH
    have hlast : (b == b.take (b.length - 1)) = false := by
      rw [beq_eq_false_iff_ne]; intro e
      have := congrArg List.length e
      simp at this; omega
    have HLAST := Hd.mk hlast
    clear hlast
    go_wp2_with fail
    clear hcutH
    refine (equal_any _ _ _ _ _ _ b (b.take (b.length - 1)) _ (HRA.out.below HB8.out) (by rw [bs, List.map_take]; exact (HRA.out.below HB8.out).take _) (by omega) rfl (by simp)).mono ?_
    rintro e w9 ⟨rfl, hb9⟩
    have HB9 := Hd.mk (below_then HB8.out HB8.out.size hb9)
    clear hb9
    rw [HLAST.out]
    go_wp2_with fail
    refine (known_calls _).mono ?_
    rintro e w10 ⟨rfl, hb10⟩
    have HB10 := Hd.mk (below_then HB9.out HB9.out.size hb10)
    clear hb10
    go_wp2
    go_ret
    exact ⟨rfl, below_then HB7.out HB7.out.size HB10.out⟩

theorem lawEqual (A : Option Addr) (c : Nat) (b : List UInt8) (at_ bit : Int) (w : World) (hr : Rc w A (bs b)) (hc : b.length ≤ c) (hn : b.length ≤ 9223372036854775807) (ha : 0 ≤ at_ ∧ at_ ≤ 65535) (hbit : 0 ≤ bit ∧ bit ≤ 255) :
    Calls Try.prog 3 #[.slice A b.length c, .int .u16 at_, .int .u8 bit] w fun e w' => RetTrue w e w' := by
  by_cases h : 500 < b.length
  · exact lawEqual_long A c b at_ bit w h hn
  · exact lawEqual_short A c b at_ bit w h hr hc ha hbit
end Go.Proofs.Ytnplmeljekhkkaa
