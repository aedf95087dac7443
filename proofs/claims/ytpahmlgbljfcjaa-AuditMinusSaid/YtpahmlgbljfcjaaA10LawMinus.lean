/- A10LawMinus: the law AuditMinus. -/
import Derived.Test.YtpahmlgbljfcjaaA10Known
namespace Go.Proofs.Ytpahmlgbljfcjaa
open Go.RowKit Go.Sac
set_option linter.unusedVariables false
set_option linter.unusedSimpArgs false
def sumB (l : List It) : Nat := (l.map fun x => x.b.length).sum
theorem sumB_snoc (l : List It) (i : Nat) (h : i < l.length) : sumB (l.take (i + 1)) = sumB (l.take i) + l[i].b.length := by
  unfold sumB
  rw [List.take_succ_eq_append_getElem h, List.map_append, List.sum_append]
  simp
theorem sumB_le (l : List It) (x : It) (h : x ∈ l) : x.b.length ≤ sumB l := by
  unfold sumB
  induction l with
  | nil => cases h
  | cons y t ih =>
    simp only [List.map_cons, List.sum_cons]
    rcases List.mem_cons.1 h with rfl | h
    · omega
    · have := ih h; omega
theorem sumB_most (l : List It) (M : Nat) (h : ∀ x ∈ l, x.b.length ≤ M) : sumB l ≤ l.length * M := by
  unfold sumB
  induction l with
  | nil => simp
  | cons y t ih =>
    simp only [List.map_cons, List.sum_cons, List.length_cons]
    have h1 := h y (by simp)
    have h2 := ih (fun x hx => h x (by simp [hx]))
    rw [Nat.succ_mul]
    omega
set_option maxHeartbeats 8000000 in
theorem law_minus (A B : Option Addr) (n m ca cb : Nat) (a b : List It) (w : World) (ha : Rc w A (its a)) (hb : Rc w B (its b)) (hA : Held w a) (hB : Held w b) (e1 : n = a.length) (e2 : m = b.length)
    (hn : n ≤ 140737488355328) (hm : m ≤ 140737488355328) (hla : ∀ x ∈ a, x.b.length ≤ 140737488355328) (hlb : ∀ x ∈ b, x.b.length ≤ 140737488355328) :
    Calls Try.prog 3 #[.slice A n ca, .slice B m cb] w (RetT w) := by
  have HRA := Hd.mk ha
  have HRB := Hd.mk hb
  have HHA := Hd.mk hA
  have HHB := Hd.mk hB
  have E1 := Hd.mk e1
  have E2 := Hd.mk e2
  have HLA := Hd.mk hla
  have HLB := Hd.mk hlb
  clear ha hb hA hB e1 e2 hla hlb
  by_cases h40 : n + m ≤ 40
  · have h41 : ¬ (40 : Int) < (n : Int) + (m : Int) := by omega
    go_enter Try.func3, Try.ntmps3
    go_wp2
    go_loopw [5, 6] (fun sv iv wr => ∃ i : Nat, iv = .int .i64 (i : Int) ∧ i ≤ n ∧ sv = .int .i64 (sumB (a.take i) : Nat) ∧ wr = w) (fun _ iv _ => n - (intOf iv).toNat)
    case atStart => exact ⟨0, rfl, Nat.zero_le _, rfl, rfl⟩
    case round =>
      obtain ⟨i, rfl, hi, rfl, rfl⟩ := hrel
      by_cases hlt : i < n
      · have hil : i < a.length := by rw [← E1.out]; exact hlt
        have hil2 : (i : Int) < (n : Int) := by omega
        obtain ⟨bb, off, rfl, hbb, hr⟩ := rcK_form its_len (by decide) HRA.out (by omega)
        have hcl := hr i hil wr (Below.refl _ _) 1 _ rfl
        have hlx := HLA.out _ (List.getElem_mem hil)
        have hst := sumB_snoc a i hil
        have hsm := sumB_most (a.take i) 140737488355328 (fun x hx => HLA.out x (List.mem_of_mem_take hx))
        obtain ⟨x, hx⟩ : ∃ x, a[i] = x := ⟨_, rfl⟩
        rw [hx] at hcl hlx hst
        obtain ⟨s, hs⟩ : ∃ s, sumB (a.take i) = s := ⟨_, rfl⟩
        rw [hs] at hst hsm
        have hs40 : s ≤ 5629499534213120 := by rw [List.length_take] at hsm; have : min i a.length ≤ 40 := by omega
                                               exact Nat.le_trans hsm (Nat.le_trans (Nat.mul_le_mul_right _ this) (by decide))
        have hwr : IntKind.i64.wrap ((s : Int) + (x.b.length : Int)) = (s : Int) + (x.b.length : Int) := by rw [IntKind.wrap_i64]; omega
        have HST := Hd.mk hst
        rw [hs]
        clear hst hsm hr hx hs
        go_wp2
        go_roundw
        case rel => exact ⟨i + 1, by go_num, by omega, by rw [HST.out]; push_cast; trivial, trivial⟩
        case measure => simp [intOf]; omega
      · obtain rfl : i = n := by omega
        have e0 : a.take i = a := by rw [E1.out]; exact List.take_length
        have hsa := sumB_most a 140737488355328 HLA.out
        rw [e0]
        obtain ⟨sa, hsa0⟩ : ∃ s, sumB a = s := ⟨_, rfl⟩
        rw [hsa0] at hsa ⊢
        have hsa4 : sa ≤ 5629499534213120 := by have := E1.out; exact Nat.le_trans hsa (Nat.le_trans (Nat.mul_le_mul_right _ (show a.length ≤ 40 by omega)) (by decide))
        have HSA := Hd.mk hsa0
        clear hsa hsa0 e0
        go_wp2
        go_loopw [5, 7] (fun sv jv w2 => ∃ j : Nat, jv = .int .i64 (j : Int) ∧ j ≤ m ∧ sv = .int .i64 ((sa + sumB (b.take j) : Nat) : Int) ∧ w2 = wr) (fun _ jv _ => m - (intOf jv).toNat)
        case atStart => exact ⟨0, rfl, Nat.zero_le _, rfl, rfl⟩
        case round =>
          obtain ⟨j, rfl, hj, rfl, rfl⟩ := hrel
          by_cases hlt2 : j < m
          · have hil : j < b.length := by rw [← E2.out]; exact hlt2
            have hil2 : (j : Int) < (m : Int) := by omega
            obtain ⟨bb, off, rfl, hbb, hr⟩ := rcK_form its_len (by decide) HRB.out (by omega)
            have hcl := hr j hil wr (Below.refl _ _) 1 _ rfl
            have hlx := HLB.out _ (List.getElem_mem hil)
            have hst := sumB_snoc b j hil
            have hsm := sumB_most (b.take j) 140737488355328 (fun x hx => HLB.out x (List.mem_of_mem_take hx))
            obtain ⟨x, hx⟩ : ∃ x, b[j] = x := ⟨_, rfl⟩
            rw [hx] at hcl hlx hst
            obtain ⟨s, hs⟩ : ∃ s, sumB (b.take j) = s := ⟨_, rfl⟩
            rw [hs] at hst hsm
            have hs40 : s ≤ 5629499534213120 := by rw [List.length_take] at hsm; have : min j b.length ≤ 40 := by omega
                                                   exact Nat.le_trans hsm (Nat.le_trans (Nat.mul_le_mul_right _ this) (by decide))
            have hwr : IntKind.i64.wrap (((sa + s : Nat) : Int) + (x.b.length : Int)) = ((sa + s : Nat) : Int) + (x.b.length : Int) := by rw [IntKind.wrap_i64]; omega
            have HST := Hd.mk hst
            rw [hs]
            obtain ⟨q, hq⟩ : ∃ q, sa + s = q := ⟨_, rfl⟩
            rw [hq] at hwr ⊢
            have HQ := Hd.mk hq
            have hqb : q ≤ 11258999068426240 := by omega
            clear hst hsm hr hx hs hq
            go_wp2
            go_roundw
            case rel => exact ⟨j + 1, by go_num, by omega, by rw [HST.out, ← Nat.add_assoc, HQ.out]; push_cast; trivial, trivial⟩
            case measure => simp [intOf]; omega
          · obtain rfl : j = m := by omega
            have e0 : b.take j = b := by rw [E2.out]; exact List.take_length
            rw [e0]
            obtain ⟨q, hq⟩ : ∃ q, sa + sumB b = q := ⟨_, rfl⟩
            rw [hq]
            have HQ : Hd (sumB a + sumB b = q) := ⟨by rw [HSA.out]; exact hq⟩
            clear e0 hq
            by_cases h15 : q ≤ 1500
            · have h16 : ¬ (1500 : Int) < (q : Int) := by omega
              have hla : ∀ x ∈ a, x.b.length ≤ 1099511627776 := fun x hx => by have := sumB_le a x hx; have := HQ.out; omega
              have hlb : ∀ x ∈ b, x.b.length ≤ 1099511627776 := fun x hx => by have := sumB_le b x hx; have := HQ.out; omega
              have HLA2 := Hd.mk hla
              have HLB2 := Hd.mk hlb
              clear hla hlb
              have T1 : Hd True := ⟨trivial⟩
              have T2 : Hd True := ⟨trivial⟩
              have T3 : Hd True := ⟨trivial⟩
              have T4 : Hd True := ⟨trivial⟩
              obtain ⟨ka, hka⟩ : ∃ k, a.map It.key = k := ⟨_, rfl⟩
              obtain ⟨kb, hkb⟩ : ∃ k, b.map It.key = k := ⟨_, rfl⟩
              have KA := Hd.mk hka
              have KB := Hd.mk hkb
              have hla2 : ka.length = i := by rw [← hka, List.length_map]; exact E1.out.symm
              have hlb2 : kb.length = j := by rw [← hkb, List.length_map]; exact E2.out.symm
              have S1 : Hd ((minusL ka kb).length + (minusL ka (minusL ka kb)).length = i) := ⟨by rw [minus_shared]; exact hla2⟩
              have S2 : Hd ((minusL ka (minusL ka kb)).length + (minusL kb ka).length = j) := ⟨by rw [minus_shared']; exact hlb2⟩
              have S3 := Hd.mk (minus_self ka)
              have S4 := Hd.mk (minus_nil ka)
              have HLN := Hd.mk hla2
              have HN1 : Hd (i ≤ 1000 ∧ j ≤ 1000) := ⟨by omega⟩
              clear hka hkb hla2 hlb2
              go_wp2_with (first
                | (go_at_call 6; clear T1
                   refine (minus_calls A B i j ca cb a b _ HRA.out HRB.out HHA.out HHB.out E1.out E2.out HN1.out.1 HN1.out.2 HLA2.out).mono ?_
                   rw [KA.out, KB.out]
                   rintro e w3 ⟨v3, l3, rfl, ho, hh, hk, hb⟩
                   obtain ⟨A3, c3, rfl, _, hr3, _⟩ := own_rc ho
                   have HB3 := Hd.mk hb; have HR3 := Hd.mk hr3; have HH3 := Hd.mk hh
                   obtain ⟨p3, hp3⟩ : ∃ p, l3.length = p := ⟨_, rfl⟩
                   rw [hp3]
                   have HP3 : Hd (p3 = l3.length) := ⟨hp3.symm⟩
                   have HK3 := Hd.mk hk
                   have HQ3 : Hd (p3 = (minusL ka kb).length) := ⟨by rw [← hk, List.length_map]; exact hp3.symm⟩
                   clear ho hh hk hb hr3 hp3)
                | (go_at_call 6; clear T2
                   refine (minus_calls A A3 i p3 ca c3 a l3 _ (HRA.out.below HB3.out) HR3.out (HHA.out.below HB3.out) HH3.out E1.out HP3.out HN1.out.1 (by have := S1.out; have := HQ3.out; have := HN1.out.1; omega) HLA2.out).mono ?_
                   rw [KA.out, HK3.out]
                   rintro e w4 ⟨v4, l4, rfl, ho, hh, hk, hb⟩
                   obtain ⟨A4, c4, rfl, _, _, _⟩ := own_rc ho
                   have HB4 := Hd.mk (below_then HB3.out HB3.out.size hb)
                   obtain ⟨p4, hp4⟩ : ∃ p, l4.length = p := ⟨_, rfl⟩
                   rw [hp4]
                   have HQ4 : Hd (p4 = (minusL ka (minusL ka kb)).length) := ⟨by rw [← hk, List.length_map]; exact hp4.symm⟩
                   clear ho hh hk hb hp4)
                | (go_at_call 6; clear T3
                   refine (minus_calls B A j i cb ca b a _ (HRB.out.below HB4.out) (HRA.out.below HB4.out) (HHB.out.below HB4.out) (HHA.out.below HB4.out) E2.out E1.out HN1.out.2 HN1.out.1 HLB2.out).mono ?_
                   rw [KA.out, KB.out]
                   rintro e w5 ⟨v5, l5, rfl, ho, hh, hk, hb⟩
                   obtain ⟨A5, c5, rfl, _, _, _⟩ := own_rc ho
                   have HB5 := Hd.mk (below_then HB4.out HB4.out.size hb)
                   obtain ⟨p5, hp5⟩ : ∃ p, l5.length = p := ⟨_, rfl⟩
                   rw [hp5]
                   have hq5 : p5 = (minusL kb ka).length := by rw [← hk, List.length_map]; exact hp5.symm
                   have hs1 : p3 + p4 = i := by have := S1.out; have := HQ3.out; have := HQ4.out; omega
                   have hs2 : p4 + p5 = j := by have := S2.out; have := HQ4.out; omega
                   have hs3 : (p3 : Int) + (p4 : Int) = (i : Int) := by omega
                   have hs4 : (p4 : Int) + (p5 : Int) = (j : Int) := by omega
                   clear ho hh hk hb hp5 hq5 hs1 hs2)
                | (go_at_call 6; clear T4
                   refine (minus_calls A A i i ca ca a a _ (HRA.out.below HB5.out) (HRA.out.below HB5.out) (HHA.out.below HB5.out) (HHA.out.below HB5.out) E1.out E1.out HN1.out.1 HN1.out.1 HLA2.out).mono ?_
                   rw [KA.out, S3.out]
                   rintro e w6 ⟨v6, l6, rfl, ho, hh, hk, hb⟩
                   obtain rfl : l6 = [] := by simpa using hk
                   obtain ⟨A6, c6, rfl, _, _, _⟩ := own_rc ho
                   have HB6 := Hd.mk (below_then HB5.out HB5.out.size hb)
                   clear ho hh hk hb)
                | (go_at_call 6
                   refine (minus_calls A none i 0 ca 0 a [] _ (HRA.out.below HB6.out) (Rc.nil _ _) (HHA.out.below HB6.out) (by intro x hx; cases hx) E1.out rfl HN1.out.1 (by decide) HLA2.out).mono ?_
                   rw [KA.out, List.map_nil, S4.out]
                   rintro e w7 ⟨v7, l7, rfl, ho, hh, hk, hb⟩
                   obtain ⟨A7, c7, rfl, _, _, _⟩ := own_rc ho
                   have HB7 := Hd.mk (below_then HB6.out HB6.out.size hb)
                   have hp7 : l7.length = i := by rw [← HLN.out, ← hk, List.length_map]
                   rw [hp7]
                   clear ho hh hk hb hp7)
                | (go_at_call 5; refine (known_calls _).mono ?_; rintro e w8 ⟨rfl, hb⟩; have HB8 := Hd.mk (below_then HB7.out HB7.out.size hb); clear hb))
              go_ret
              exact ⟨rfl, HB8.out⟩
            · have h16 : (1500 : Int) < (q : Int) := by omega
              go_wp2_with (go_at_call 5; refine (known_calls _).mono ?_; rintro e w1 ⟨rfl, hb⟩; have HB := Hd.mk hb; clear hb)
              go_ret
              exact ⟨rfl, HB.out⟩
  · have h41 : (40 : Int) < (n : Int) + (m : Int) := by omega
    go_enter Try.func3, Try.ntmps3
    go_wp2_with (go_at_call 5; refine (known_calls _).mono ?_; rintro e w1 ⟨rfl, hb⟩; have HB := Hd.mk hb; clear hb)
    go_ret
    exact ⟨rfl, HB.out⟩
theorem row_minus (A : Option Addr) (ca : Nat) (a : List It) (B : Option Addr) (cb : Nat) (b : List It) (w : World) (h1 : Rc w A (its a)) (h2 : a.length ≤ ca) (h3 : a.length ≤ 140737488355328) (h4 : Held w a ∧ ∀ y ∈ a, y.b.length ≤ 140737488355328)
    (k1 : Rc w B (its b)) (k2 : b.length ≤ cb) (k3 : b.length ≤ 140737488355328) (k4 : Held w b ∧ ∀ y ∈ b, y.b.length ≤ 140737488355328) :
    Calls Try.prog 3 #[.slice A a.length ca, .slice B b.length cb] w (RetT w) :=
  law_minus A B _ _ ca cb a b w h1 k1 h4.1 k4.1 rfl rfl h3 k3 h4.2 k4.2
end Go.Proofs.Ytpahmlgbljfcjaa
