/- E14At: E14At, E14At2. -/
import Derived.Test.YtiloeaenpanjcaaE14Sorted
/-! from E14At -/
namespace Go.Proofs.Ytiloeaenpanjcaa
open Go.RowKit Go.Sac
set_option linter.unusedVariables false
set_option linter.unusedSimpArgs false

theorem cb_neg : ∀ (a b : List UInt8), Lib.compareBytes a b = - Lib.compareBytes b a
  | [], [] => by simp [Lib.compareBytes]
  | [], y :: b => by simp [Lib.compareBytes]
  | x :: a, [] => by simp [Lib.compareBytes]
  | x :: a, y :: b => by
    have ih := cb_neg a b
    simp only [Lib.compareBytes, UInt8.lt_iff_toNat_lt]
    by_cases p1 : x.toNat < y.toNat
    · rw [if_pos p1, if_neg (by omega), if_pos p1]
    · rw [if_neg p1]
      by_cases p2 : y.toNat < x.toNat
      · rw [if_pos p2, if_pos p2]; decide
      · rw [if_neg p2, if_neg p2, if_neg p1, ih]
/-- where the first one of a name is; -1: nowhere -/
def atE (l : List Ent) (t : ByteArray) : Int := match l.findIdx? (fun x => decide (x.1 = t)) with | some k => (k : Int) | none => -1
theorem atE_some {l : List Ent} {t : ByteArray} {k : Nat} (hk : k < l.length) (h : l[k].1 = t) (hb : ∀ j, (hj : j < l.length) → j < k → l[j].1 ≠ t) : atE l t = (k : Int) := by
  unfold atE
  have : l.findIdx? (fun x => decide (x.1 = t)) = some k := by
    rw [List.findIdx?_eq_some_iff_getElem]
    exact ⟨hk, by simpa using h, fun j hj => by simpa using hb j (by omega) hj⟩
  rw [this]
theorem atE_none {l : List Ent} {t : ByteArray} (hb : ∀ j, (hj : j < l.length) → l[j].1 ≠ t) : atE l t = -1 := by
  unfold atE
  have : l.findIdx? (fun x => decide (x.1 = t)) = none := by
    rw [List.findIdx?_eq_none_iff]
    intro x hx
    obtain ⟨j, hj, rfl⟩ := List.mem_iff_getElem.1 hx
    simpa using hb j hj
  rw [this]
theorem at_found {l : List Ent} {t : ByteArray} {i : Nat} (hil : i < l.length) (h0 : cmpN l[i].1 t = 0) (hlow : ∀ k, (hk : k < l.length) → k < i → cmpN l[k].1 t < 0) : atE l t = (i : Int) := by
  refine atE_some hil ((cmpN_eq _ _).1 h0) fun j hj hji e => ?_
  have := hlow j hj hji
  rw [(cmpN_eq _ _).2 e] at this
  omega
theorem at_missed {l : List Ent} {t : ByteArray} {i : Nat} (hs : sortedE l = true) (hlow : ∀ k, (hk : k < l.length) → k < i → cmpN l[k].1 t < 0) (hup : ∀ k, (hk : k < l.length) → i ≤ k → 0 ≤ cmpN l[k].1 t)
    (hno : ¬ ∃ h : i < l.length, cmpN l[i].1 t = 0) : atE l t = -1 := by
  refine atE_none fun j hj e => ?_
  by_cases hji : j < i
  · have := hlow j hj hji
    rw [(cmpN_eq _ _).2 e] at this
    omega
  · have hil : i < l.length := by omega
    have h1 := hup i hil (Nat.le_refl _)
    refine hno ⟨hil, ?_⟩
    by_cases hpos : cmpN l[i].1 t = 0
    · exact hpos
    · exfalso
      have h2 : cmpN t l[i].1 < 0 := by
        have := cb_neg t.data.toList l[i].1.data.toList
        unfold cmpN at h1 hpos ⊢
        omega
      have h3 := sorted_mono l l[i].1 hs i j hil hj (by omega) (by rw [e]; exact h2)
      rw [(cmpN_eq _ _).2 rfl] at h3
      omega
set_option maxHeartbeats 4000000 in
theorem rat_calls (A : Option Addr) (n c : Nat) (l : List Ent) (t : ByteArray) (w : World) (hl : Rc w A (ens l)) (e1 : n = l.length) (hn : l.length ≤ 5864062014634) :
    Calls Try.prog 35 #[.slice A n c, .string t] w fun e w' => e = .returned (.int .i64 (atE l t)) ∧ w' = w := by
  have HL := Hd.mk hl
  rw [← e1] at hn
  have HN := Hd.mk e1.symm
  clear hl e1
  go_enter Try.func35, Try.ntmps35
  go_wp2
  go_loop [5] (fun iv => ∃ i : Nat, iv = .int .i64 (i : Int) ∧ i ≤ n ∧ Hd (∀ k, (hk : k < l.length) → k < i → l[k].1 ≠ t)) (fun iv => n - (intOf iv).toNat)
  case atStart => exact ⟨0, rfl, Nat.zero_le _, ⟨fun k hk h => by omega⟩⟩
  case round =>
    obtain ⟨i, rfl, hi, HI⟩ := hrel
    by_cases hlt : i < n
    · have hil : i < l.length := by rw [HN.out]; exact hlt
      obtain ⟨b, off, rfl, hb, hr⟩ := rcK_form ecs_len (by decide) HL.out (by omega)
      have hx := hr i hil w (Below.refl _ _) 0 _ rfl
      obtain ⟨x, hx0⟩ : ∃ x, l[i].1 = x := ⟨_, rfl⟩
      change _ = some (Value.string l[i].1) at hx
      rw [Nat.add_zero, hx0] at hx
      have HX : Hd (∀ hk : i < l.length, l[i].1 = x) := ⟨fun _ => hx0⟩
      clear hr hx0 hb
      by_cases he : x = t
      · have d1 : (x.toList == t.toList) = true := by rw [he]; simp
        have HE : Hd (atE l t = (i : Int)) := ⟨atE_some hil (by rw [HX.out hil]; exact he) HI.out⟩
        clear hil he
        go_wp2
        go_ret
        exact ⟨by rw [HE.out]; rfl, rfl⟩
      · have d1 : (x.toList == t.toList) = false := by
          rw [beq_eq_false_iff_ne, ByteArray.toList_eq, ByteArray.toList_eq]
          intro h
          apply he
          cases x; cases t
          congr 1
          exact Array.toList_inj.1 h
        have HE := Hd.mk he
        clear hil he
        go_wp2
        go_round
        case rel =>
          refine ⟨i + 1, by go_num, by omega, ⟨fun k hk hki => ?_⟩⟩
          rcases (show k < i ∨ k = i by omega) with h | rfl
          · exact HI.out k hk h
          · rw [HX.out hk]; exact HE.out
        case measure => simp [intOf]; omega
    · obtain rfl : i = n := by omega
      have HE : Hd (atE l t = -1) := ⟨atE_none fun j hj => HI.out j hj (by have := HN.out; omega)⟩
      go_wp2
      go_ret
      exact ⟨by rw [HE.out]; rfl, rfl⟩
end Go.Proofs.Ytiloeaenpanjcaa
/-! from E14At2 -/
namespace Go.Proofs.Ytiloeaenpanjcaa
open Go.RowKit Go.Sac
set_option linter.unusedVariables false
set_option linter.unusedSimpArgs false

theorem sorted_b (A : Option Addr) (n c : Nat) (l : List Ent) (r : Bool) (w : World) (hl : Rc w A (ens l)) (e1 : n = l.length) (hn : l.length ≤ 5864062014634) (hr : sortedE l = r) :
    Calls Try.prog 46 #[.slice A n c, .func (.func 47) #[] #[]] w fun e w' => e = .returned (.bool r) ∧ Below w.heap.size w w' := by
  subst e1; subst hr; exact sorted_calls A c l w hl hn
theorem search_b (A : Option Addr) (n c : Nat) (l : List Ent) (t : ByteArray) (w : World) (hl : Rc w A (ens l)) (e1 : n = l.length) (hn : l.length ≤ 5864062014634) (hs : sortedE l = true) :
    Calls Try.prog 48 #[.slice A n c, .string t, .func (.func 44) #[] #[]] w fun e w' =>
      ∃ (i : Nat) (f : Bool), (f = true → atE l t = (i : Int)) ∧ (f = false → atE l t = -1) ∧ e = .returned (.tuple #[.int .i64 (i : Int), .bool f]) ∧ Below w.heap.size w w' := by
  refine (search_calls A n c l t w hl e1 hn (sorted_mono l t hs)).mono ?_
  rintro e w' ⟨i, hi, hlow, hup, rfl, hb⟩
  refine ⟨i, _, fun h => ?_, fun h => ?_, rfl, hb⟩
  · obtain ⟨h1, h2⟩ := of_decide_eq_true h
    exact at_found h1 h2 hlow
  · exact at_missed hs hlow hup (of_decide_eq_false h)
set_option maxHeartbeats 4000000 in
theorem at_calls (A : Option Addr) (n c : Nat) (l : List Ent) (t : ByteArray) (w : World) (hl : Rc w A (ens l)) (e1 : n = l.length) (hn : l.length ≤ 5864062014634) :
    Calls Try.prog 29 #[.slice A n c, .string t] w fun e w' => e = .returned (.int .i64 (atE l t)) ∧ Below w.heap.size w w' := by
  have HL := Hd.mk hl
  have HE1 := Hd.mk e1
  have HN := Hd.mk hn
  rw [← e1] at hn
  clear hl e1
  cases hs : sortedE l
  · have HS := Hd.mk hs
    clear hs
    go_enter Try.func29, Try.ntmps29
    go_wp2
    apply wp_scope_straight
    go_wp2_with (first | (refine wp_label ?_) | go_at_call 46; refine (sorted_b A n c l false _ HL.out HE1.out HN.out HS.out).mono ?_; rintro e w1 ⟨rfl, hb⟩; have HB := Hd.mk hb; clear hb)
    go_loopw [23] (fun iv wr => ∃ i : Nat, iv = .int .i64 (i : Int) ∧ i ≤ n ∧ Hd (∀ k, (hk : k < l.length) → k < i → l[k].1 ≠ t) ∧ Hd (Below w.heap.size w wr)) (fun iv _ => n - (intOf iv).toNat)
    case atStart => exact ⟨0, rfl, Nat.zero_le _, ⟨fun k hk h => by omega⟩, HB⟩
    case round =>
      clear HB
      obtain ⟨i, rfl, hi, HI, HB⟩ := hrel
      by_cases hlt : i < n
      · have hil : i < l.length := by rw [← HE1.out]; exact hlt
        obtain ⟨b, off, rfl, hb, hr⟩ := rcK_form ecs_len (by decide) HL.out (by omega)
        have hx := hr i hil wr HB.out
        obtain ⟨x, hx0⟩ : ∃ x, l[i] = x := ⟨_, rfl⟩
        rw [hx0] at hx
        have HXC := Hd.mk hx
        have HX : Hd (∀ hk : i < l.length, l[i] = x) := ⟨fun _ => hx0⟩
        obtain ⟨xn, xk⟩ := x
        have HB2 := Hd.mk (HB.out.alloc HB.out.size (.cells #[.string xn, .int .i64 xk] 31))
        clear hr hx hx0 hb
        by_cases he : xn = t
        · have d1 : (xn.toList == t.toList) = true := by rw [he]; simp
          have HE : Hd (atE l t = (i : Int)) := ⟨atE_some hil (by rw [HX.out hil]; exact he) HI.out⟩
          clear hil he
          go_wp2_with (refine wpList_ldmid rfl 31 (.tmp 26) rfl b (off + i * 2) rfl [.string xn, .int .i64 xk] _ HXC.out Try.underlying31 rfl (ent_info.trans rfl) ?_)
          dsimp only [Exit.noGoto]
          go_ret
          exact ⟨by rw [HE.out]; rfl, HB2.out⟩
        · have d1 : (xn.toList == t.toList) = false := by
            rw [beq_eq_false_iff_ne, ByteArray.toList_eq, ByteArray.toList_eq]
            intro h
            apply he
            cases xn; cases t
            congr 1
            exact Array.toList_inj.1 h
          have HE := Hd.mk he
          clear hil he
          go_wp2_with (refine wpList_ldmid rfl 31 (.tmp 26) rfl b (off + i * 2) rfl [.string xn, .int .i64 xk] _ HXC.out Try.underlying31 rfl (ent_info.trans rfl) ?_)
          go_roundw
          case rel =>
            refine ⟨i + 1, by go_num, by omega, ⟨fun k hk hki => ?_⟩, HB2⟩
            rcases (show k < i ∨ k = i by omega) with h | rfl
            · exact HI.out k hk h
            · rw [HX.out hk]; exact HE.out
          case measure => simp [intOf]; omega
      · obtain rfl : i = n := by omega
        have HE : Hd (atE l t = -1) := ⟨atE_none fun j hj => HI.out j hj (by have := HE1.out; omega)⟩
        go_wp2
        dsimp only [Exit.noGoto]
        go_ret
        exact ⟨by rw [HE.out]; rfl, HB.out⟩
  · have HS := Hd.mk hs
    clear hs
    go_enter Try.func29, Try.ntmps29
    go_wp2
    apply wp_scope_straight
    go_wp2_with (first
      | (go_at_call 46; refine (sorted_b A n c l true _ HL.out HE1.out HN.out HS.out).mono ?_; rintro e w1 ⟨rfl, hb⟩; have HB := Hd.mk hb; clear hb)
      | (go_at_call 48; refine (search_b A n c l t _ (HL.out.below HB.out) HE1.out HN.out HS.out).mono ?_; rintro e w2 ⟨i, f, ht, hf, rfl, hb⟩; have HT := Hd.mk ht; have HF := Hd.mk hf; have HB := Hd.mk (below_then HB.out HB.out.size hb); clear hb ht hf))
    all_goals dsimp only [Exit.noGoto]
    all_goals cases f
    all_goals first | contradiction | skip
    · go_ret
      first | exact ⟨by rw [HF.out rfl]; rfl, HB.out⟩ | exact ⟨by rw [HT.out rfl]; rfl, HB.out⟩
    · go_ret
      first | exact ⟨by rw [HF.out rfl]; rfl, HB.out⟩ | exact ⟨by rw [HT.out rfl]; rfl, HB.out⟩
end Go.Proofs.Ytiloeaenpanjcaa
