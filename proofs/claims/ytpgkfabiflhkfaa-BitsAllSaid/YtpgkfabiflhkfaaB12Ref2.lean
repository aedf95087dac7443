/- Walks: the reference's answers for bits: set, free, first, some, counted. -/
import Derived.Test.YtpgkfabiflhkfaaB12Ref
namespace Go.Proofs.Ytpgkfabiflhkfaa
open Go.RowKit Go.Sac
set_option linter.unusedVariables false
set_option linter.unusedSimpArgs false

set_option maxHeartbeats 2000000 in
theorem rset_same (A : Option Addr) (c : Nat) (b : List UInt8) (i : Int) (v : Bool) (w : World) (hb : Rc w A (bs b)) (hn : b.length ≤ 1099511627776) (hi : i ≤ 9223372036854775807) (h : getI b i = v ∨ ¬ (0 ≤ i ∧ i < 8 * (b.length : Int))) :
    Calls Try.prog 16 #[.slice A b.length c, .int .i64 i, .bool v] w fun e w' => RetB 5 (setI b i v) w e w' := by
  rw [setI_same b i v h]
  have HL := Hd.mk hb
  have HI := Hd.mk hi
  have HN := Hd.mk hn
  clear hb hi
  by_cases h0 : i < 0
  · have h0' : decide (i < 0) = true := by simpa using h0
    clear h
    go_enter Try.func16, Try.ntmps16
    go_wp2_with (at_builtin; refine app_rc w.heap.size 22 5 (.int .u8 0) 1 1 (.tmp 8) (.tmp 9) rfl rfl Try.underlying22 info_u8 rfl (by decide) (by decide) (.slice none 0 0) 0 [] (bs b) A b.length c rfl rfl (World.ownsRow_nil _ _ _ _) HL.out (by simp) bs_one (Nat.le_refl _) (by omega) b.length (bs b) (by omega) (by simp) ?_; intro v1 w1 ho hg hat; have HO := Hd.mk ho; have HB := Hd.mk (below_nil hg); clear ho hg hat)
    go_ret
    exact ⟨_, rfl, HO.out, HB.out⟩
  · have h0' : decide (i < 0) = false := by simpa using h0
    obtain ⟨j, rfl⟩ := Int.eq_ofNat_of_zero_le (show 0 ≤ i by omega)
    by_cases h1 : j / 8 < b.length
    · have hg : getI b (j : Int) = v := h.resolve_right (fun h => h ⟨by omega, by omega⟩)
      have HG := Hd.mk hg
      have hvv : (v == v) = true := by simp
      have h1' : decide ((j : Int) / 8 ≥ (b.length : Int)) = false := by simp; omega
      clear h hg
      go_enter Try.func16, Try.ntmps16
      go_wp2_with (first
        | (go_at_call 13; refine (rget_any _ _ _ b _ _ (HL.out.below HB.out) HN.out HI.out rfl).mono ?_; rintro e w' ⟨rfl, rfl⟩; rw [HG.out])
        | (at_builtin; refine app_rc w.heap.size 22 5 (.int .u8 0) 1 1 (.tmp 8) (.tmp 9) rfl rfl Try.underlying22 info_u8 rfl (by decide) (by decide) (.slice none 0 0) 0 [] (bs b) A b.length c rfl rfl (World.ownsRow_nil _ _ _ _) HL.out (by simp) bs_one (Nat.le_refl _) (by omega) b.length (bs b) (by omega) (by simp) ?_; intro v1 w1 ho hg hat; have HO := Hd.mk ho; have HB := Hd.mk (below_nil hg); clear ho hg hat))
      go_ret
      exact ⟨_, rfl, HO.out, HB.out⟩
    · have h1' : decide ((j : Int) / 8 ≥ (b.length : Int)) = true := by simp; omega
      have h1'' : (b.length : Int) ≤ (j : Int) / 8 := by omega
      have hjj := HI.out
      have h1c : decide ((b.length : Int) ≤ (j : Int) / 8) = true := by rw [decide_eq_true_eq]; exact h1''
      clear h
      go_enter Try.func16, Try.ntmps16
      go_wp2_with (at_builtin; refine app_rc w.heap.size 22 5 (.int .u8 0) 1 1 (.tmp 8) (.tmp 9) rfl rfl Try.underlying22 info_u8 rfl (by decide) (by decide) (.slice none 0 0) 0 [] (bs b) A b.length c rfl rfl (World.ownsRow_nil _ _ _ _) HL.out (by simp) bs_one (Nat.le_refl _) (by omega) b.length (bs b) (by omega) (by simp) ?_; intro v1 w1 ho hg hat; have HO := Hd.mk ho; have HB := Hd.mk (below_nil hg); clear ho hg hat)
      go_ret
      exact ⟨_, rfl, HO.out, HB.out⟩

set_option maxHeartbeats 2000000 in
theorem rset_turn (A : Option Addr) (c : Nat) (b : List UInt8) (j : Nat) (v : Bool) (w : World) (hb : Rc w A (bs b)) (hn : b.length ≤ 1099511627776) (hj : j / 8 < b.length) (h : getI b (j : Int) ≠ v) :
    Calls Try.prog 16 #[.slice A b.length c, .int .i64 (j : Int), .bool v] w fun e w' => RetB 5 (setI b (j : Int) v) w e w' := by
  have HL := Hd.mk hb
  have hr8 : j % 8 < 8 := Nat.mod_lt _ (by decide)
  have hG : (getI b (j : Int) == v) = false := by rw [beq_eq_false_iff_ne]; exact h
  obtain ⟨x, hx⟩ : ∃ x, x = b[j / 8] := ⟨_, rfl⟩
  have hbit : x.toNat.testBit (j % 8) ≠ v := by rw [hx, ← getT_at b j hj, ← getI_nat b j (by omega)]; exact h
  have HT : Hd (setI b (j : Int) v = b.set (j / 8) (setB x (j % 8) v)) := ⟨by
    rw [setI, if_pos ⟨by omega, by omega⟩]
    show setT b j v = _
    rw [setT, List.getD_eq_getElem?_getD, List.getElem?_eq_getElem hj, Option.getD_some, hx]⟩
  have HX := Hd.mk (setB_xor x (j % 8) v hr8 hbit)
  have HXX := Hd.mk hx
  have h1' : decide ((j : Int) / 8 ≥ (b.length : Int)) = false := by simp; omega
  have h0' : decide ((j : Int) < 0) = false := by simp
  have HN := Hd.mk hn
  obtain ⟨y, hy⟩ : ∃ y, y = getI b (j : Int) := ⟨_, rfl⟩
  rw [← hy] at hG
  have HG := Hd.mk hy.symm
  clear hb hr8 h hbit hx hy
  go_enter Try.func16, Try.ntmps16
  go_wp2_with (first
    | (go_at_call 13; refine (rget_any _ _ _ b _ _ (HL.out.below HB.out) HN.out (by have := HN.out; omega) rfl).mono ?_; rintro e w' ⟨rfl, rfl⟩; rw [HG.out])
    | (at_builtin; refine app_rc w.heap.size 22 5 (.int .u8 0) 1 1 (.tmp 8) (.tmp 9) rfl rfl Try.underlying22 info_u8 rfl (by decide) (by decide) (.slice none 0 0) 0 [] (bs b) A b.length c rfl rfl (World.ownsRow_nil _ _ _ _) HL.out (by simp) bs_one (Nat.le_refl _) (by omega) b.length (bs b) (by omega) (by simp) ?_; intro v1 w1 ho hg hat; have HO := Hd.mk ho; have HB := Hd.mk (below_nil hg); obtain ⟨g, cap, rfl, hg1, hg2⟩ := own_form HO.out (by omega); obtain ⟨hc, hf⟩ := own_at HO.out (bs_at hj); rw [← HXX.out] at hc; clear ho hg hat))
  rw [HX.out]
  go_ret
  have h1 := (HO.out.stored (j / 8) (Value.int .u8 ((setB x (j % 8) v).toNat : Int))).1
  rw [show Value.int .u8 (((setB x (j % 8) v).toNat : Nat) : Int) = u8v (setB x (j % 8) v) from rfl, bs, ← List.map_set] at h1
  exact ⟨_, rfl, by rw [HT.out]; simpa [u8v] using h1, HB.out.setCell (p := ⟨g, j / 8, none⟩) hg1 _⟩
theorem rset_any (A : Option Addr) (n c : Nat) (b : List UInt8) (i : Int) (v : Bool) (w : World) (hb : Rc w A (bs b)) (hn : b.length ≤ 1099511627776) (hi : i ≤ 9223372036854775807) (e1 : n = b.length) :
    Calls Try.prog 16 #[.slice A n c, .int .i64 i, .bool v] w fun e w' => RetB 5 (setI b i v) w e w' := by
  subst e1
  by_cases h : getI b i = v ∨ ¬ (0 ≤ i ∧ i < 8 * (b.length : Int))
  · exact rset_same A c b i v w hb hn hi h
  · have h1 : getI b i ≠ v ∧ 0 ≤ i ∧ i < 8 * (b.length : Int) := by
      refine ⟨fun e => h (.inl e), Classical.byContradiction fun e => h (.inr fun ⟨a, b⟩ => e a), Classical.byContradiction fun e => h (.inr fun ⟨a, b⟩ => e b)⟩
    obtain ⟨h1, h2, h3⟩ := h1
    obtain ⟨j, rfl⟩ := Int.eq_ofNat_of_zero_le h2
    exact rset_turn A c b j v w hb hn (by omega) h1

set_option maxHeartbeats 2000000 in
theorem rfree_any (A : Option Addr) (n c : Nat) (b : List UInt8) (f t : Int) (w : World) (hb : Rc w A (bs b)) (hn : b.length ≤ 1099511627776) (e1 : n = b.length) :
    Calls Try.prog 26 #[.slice A n c, .int .i64 f, .int .i64 t] w fun e w' => RetI (frT b f.toNat (hiT b t)) w e w' := by
  subst e1
  have HL := Hd.mk hb
  have HN := Hd.mk hn
  clear hb
  rw [← fU_end]
  go_enter Try.func26, Try.ntmps26
  go_wp2
  go_loopw [7, 8] (fun v i wr => ∃ k : Nat, k ≤ 8 * b.length ∧ i = .int .i64 k ∧ Hd (wr.ownsRow w.heap.size 3 1 v (fU b f t k).length (ns (fU b f t k))) ∧ Hd (Below w.heap.size w wr)) (fun _ i _ => 8 * b.length - (intOf i).toNat)
  case atStart => exact ⟨0, Nat.zero_le _, rfl, ⟨by rw [fU_zero]; exact World.ownsRow_nil _ _ _ _⟩, ⟨Below.refl _ _⟩⟩
  case round =>
    obtain ⟨k, hk, rfl, HO, HB⟩ := hrel
    by_cases hlt : k < 8 * b.length
    · have hkk : (k : Int) < 8 * (b.length : Int) := by omega
      have hlen := fU_len b f t k
      by_cases h1 : f ≤ (k : Int)
      · by_cases h2 : (k : Int) < t
        · cases h3 : getT b k
          · have HY := Hd.mk (fU_yes b f t k h1 h2 h3)
            have HG : Hd (getI b (k : Int) = false) := ⟨by rw [getI_nat b k hlt]; exact h3⟩
            obtain ⟨A1, c1, rfl, _, _, _⟩ := own_rc HO.out
            clear h3
            go_wp2_with (first
              | (go_at_call 13; refine (rget_any _ _ _ b _ _ (HL.out.below HB.out) HN.out (by have := HN.out; omega) rfl).mono ?_; rintro e w' ⟨rfl, rfl⟩; rw [HG.out])
              | (at_builtin; refine app_rc w.heap.size 24 3 (.int .i64 0) 1 8 (.tmp 30) (.tmp 32) rfl rfl Try.underlying24 info_int rfl (by decide) (by decide) (.slice A1 (fU b f t k).length c1) (fU b f t k).length (ns (fU b f t k)) [.int .i64 (k : Int)] (some ⟨w'.heap.size, 0, none⟩) 1 1 rfl rfl (own_alloc HO.out _) (Rc.one _ _ _) (by simp) (by simp [Value.oneCell']) (Nat.le_trans HB.out.size (by simp)) (by omega) (fU b f t (k + 1)).length (ns (fU b f t (k + 1))) (by rw [HY.out]; simp) (by rw [HY.out]; simp [ns, i64v]) ?_; intro v2 w2 ho hg hat; have HO1 := Hd.mk ho; have HG1 := Hd.mk hg; clear ho hg hat))
            go_roundw
            case rel => exact ⟨k + 1, by omega, by go_num, HO1, ⟨below_lift (HB.out.alloc HB.out.size _) (Nat.le_trans HB.out.size (by simp)) HG1.out (fun b hb => (own_lt HO.out b hb).1)⟩⟩
            case measure => simp [intOf]; omega
          · have HY := Hd.mk (fU_no b f t k (by rintro ⟨_, _, h⟩; rw [h3] at h; cases h))
            have HG : Hd (getI b (k : Int) = true) := ⟨by rw [getI_nat b k hlt]; exact h3⟩
            clear h3
            go_wp2_with (go_at_call 13; refine (rget_any _ _ _ b _ _ (HL.out.below HB.out) HN.out (by have := HN.out; omega) rfl).mono ?_; rintro e w' ⟨rfl, rfl⟩; rw [HG.out])
            go_roundw
            case rel => exact ⟨k + 1, by omega, by go_num, ⟨by rw [HY.out]; exact HO.out⟩, HB⟩
            case measure => simp [intOf]; omega
        · have HY := Hd.mk (fU_no b f t k (by rintro ⟨_, h, _⟩; exact h2 h))
          have h2' : decide ((k : Int) < t) = false := by simpa using h2
          go_wp2
          go_roundw
          case rel => exact ⟨k + 1, by omega, by go_num, ⟨by rw [HY.out]; exact HO.out⟩, HB⟩
          case measure => simp [intOf]; omega
      · have HY := Hd.mk (fU_no b f t k (by rintro ⟨h, _, _⟩; exact h1 h))
        have h1' : decide (f ≤ (k : Int)) = false := by simpa using h1
        have h1'' : (k : Int) < f := by omega
        go_wp2
        go_roundw
        case rel => exact ⟨k + 1, by omega, by go_num, ⟨by rw [HY.out]; exact HO.out⟩, HB⟩
        case measure => simp [intOf]; omega
    · obtain rfl : k = 8 * b.length := by omega
      obtain ⟨A1, c1, rfl, h1, h2, _⟩ := own_rc HO.out
      go_wp2
      go_ret
      exact ⟨_, _, rfl, h1, h2, HB.out⟩
end Go.Proofs.Ytpgkfabiflhkfaa
