/- Walks of the functions that the law reaches. -/
import Derived.Test.YtnplmeljekhkkaaCLawBack
import Derived.Test.YtnplmeljekhkkaaBase2
namespace Go.Proofs.Ytnplmeljekhkkaa
open Go.RowKit Go.Sac
set_option linter.unusedVariables false
set_option linter.unusedSimpArgs false

def nines (u : List UInt8) : List Int := u.map fun x => (x.toNat : Int) % 9
def ninesT (u : List UInt8) (k : Nat) : List Int := (nines u).take k
def sumT (u : List UInt8) (k : Nat) : Int := (ninesT u k).sum
theorem ninesT_step (u : List UInt8) (k : Nat) (h : k < u.length) : ninesT u (k + 1) = ninesT u k ++ [(u[k].toNat : Int) % 9] := by
  unfold ninesT; rw [List.take_succ_eq_append_getElem (by simpa [nines] using h)]; simp [nines]
theorem sumT_step (u : List UInt8) (k : Nat) (h : k < u.length) : sumT u (k + 1) = sumT u k + (u[k].toNat : Int) % 9 := by
  unfold sumT; rw [ninesT_step u k h, List.sum_append]; simp
theorem sumT_bd (u : List UInt8) (k : Nat) (h : k ≤ u.length) : 0 ≤ sumT u k ∧ sumT u k ≤ 9 * k := by
  induction k with
  | zero => simp [sumT, ninesT]
  | succ k ih => have := ih (by omega); rw [sumT_step u k h]; omega
theorem ninesT_all (u : List UInt8) : ninesT u u.length = nines u := by unfold ninesT; rw [List.take_of_length_le (by simp [nines])]
theorem nines_len (u : List UInt8) : (nines u).length = u.length := by simp [nines]
theorem ninesT_len (u : List UInt8) (k : Nat) (h : k ≤ u.length) : (ninesT u k).length = k := by unfold ninesT; rw [List.length_take, nines_len]; omega
/-- the error tells whether there are as many bytes, or more, or fewer -/
theorem cutE_sum (ws : List Int) (h : ∀ n ∈ ws, 0 ≤ n) : ∀ (b : List UInt8), (cutE b ws = 0 ↔ ws.sum = b.length) ∧ (cutE b ws = 3 ↔ ws.sum > b.length) := by
  induction ws with
  | nil =>
    intro b
    rw [cutE_end]
    cases b with
    | nil => simp
    | cons x r => simp only [List.length_cons, List.sum_nil]; constructor <;> constructor <;> intro hh <;> (try (simp at hh; done)) <;> omega
  | cons n ws ih =>
    intro b
    have hn := h n (by simp)
    have h' : ∀ m ∈ ws, 0 ≤ m := fun m hm => h m (by simp [hm])
    have hs : 0 ≤ ws.sum := by
      clear ih h hn
      induction ws with
      | nil => simp
      | cons m ws ih => rw [List.sum_cons]; have := ih (fun x hx => h' x (by simp [hx])); have := h' m (by simp); omega
    rw [cutE_cons, List.sum_cons]
    split
    · constructor <;> constructor <;> intro hh <;> omega
    · have := ih h' (b.drop n.toNat)
      rw [List.length_drop] at this
      rw [this.1, this.2]
      constructor <;> omega
theorem cut_join (ws : List Int) (h : ∀ n ∈ ws, 0 ≤ n) : ∀ (b : List UInt8), cutE b ws = 0 → (cutR b ws).flatten = b ∧ ∀ i (h1 : i < (cutR b ws).length) (h2 : i < ws.length), ((cutR b ws)[i].length : Int) = ws[i] := by
  induction ws with
  | nil => intro b hb; rw [cutE_end] at hb; cases b with
    | nil => exact ⟨rfl, fun i h1 => by simp [cutR] at h1⟩
    | cons => simp at hb
  | cons n ws ih =>
    intro b hb
    have hn := h n (by simp)
    rw [cutE_cons] at hb
    split at hb
    · omega
    · obtain ⟨h1, h2⟩ := ih (fun m hm => h m (by simp [hm])) _ hb
      refine ⟨by rw [cutR, List.flatten_cons, h1, List.take_append_drop], fun i hi1 hi2 => ?_⟩
      cases i with
      | zero => simp only [cutR, List.getElem_cons_zero, List.length_take]; omega
      | succ i =>
        simp only [cutR, List.getElem_cons_succ]
        exact h2 i _ _
theorem cutE_four : ∀ (b : List UInt8) (ws : List Int), ¬ cutE b ws = 0 → ¬ cutE b ws = 3 → cutE b ws = 4 := by
  intro b ws
  induction ws generalizing b with
  | nil => rw [cutE_end]; split <;> omega
  | cons n ws ih =>
    rw [cutE_cons]
    split
    · omega
    · exact ih _
theorem nines_nonneg (u : List UInt8) : ∀ n ∈ nines u, 0 ≤ n := by intro n hn; simp only [nines, List.mem_map] at hn; obtain ⟨x, _, rfl⟩ := hn; omega

set_option maxHeartbeats 4000000 in
theorem lawParts (A : Option Addr) (c : Nat) (b : List UInt8) (B : Option Addr) (d : Nat) (u : List UInt8) (C : Option Addr) (f : Nat) (l : List (List UInt8)) (D : Option Addr) (g : Nat) (m : List (List UInt8)) (w : World)
    (hr1 : Rc w A (bs b)) (hc1 : b.length ≤ c) (hm1 : b.length ≤ 1048576) (hr2 : Rc w B (bs u)) (hc2 : u.length ≤ d) (hm2 : u.length ≤ 1048576)
    (hr3 : Rcc w C l) (hc3 : l.length ≤ f) (hm3 : l.length ≤ 1048576) (hf3 : l.flatten.length ≤ 1048576) (hr4 : Rcc w D m) (hc4 : m.length ≤ g) (hm4 : m.length ≤ 1048576) (hf4 : m.flatten.length ≤ 1048576) :
    Calls Try.prog 6 #[.slice A b.length c, .slice B u.length d, .slice C l.length f, .slice D m.length g] w fun e w' => RetTrue w e w' := by
  have H1 := Hd.mk hr1
  have H2 := Hd.mk hr2
  have H3 := Hd.mk hr3
  have H4 := Hd.mk hr4
  obtain ⟨fl, hfl⟩ : ∃ fl, l.flatten = fl := ⟨_, rfl⟩
  obtain ⟨fm, hfm⟩ : ∃ fm, m.flatten = fm := ⟨_, rfl⟩
  rw [hfl] at hf3
  rw [hfm] at hf4
  have HFL := Hd.mk (And.intro hfl hfm)
  clear hr1 hr2 hr3 hr4 hfl hfm
  go_enter Try.func6, Try.ntmps6
  go_wp2
  go_loopw [10, 11, 12] (fun v s i wr => ∃ (k : Nat), k ≤ u.length ∧ i = .int .i64 k ∧ s = .int .i64 (sumT u k) ∧ Hd (wr.ownsRow w.heap.size 3 1 v k (ns (ninesT u k))) ∧ Hd (Below w.heap.size w wr)) (fun _ _ i _ => u.length - (intOf i).toNat)
  case atStart => exact ⟨0, Nat.zero_le _, rfl, by simp [sumT, ninesT], ⟨World.ownsRow_nil _ _ _ _⟩, ⟨Below.refl _ _⟩⟩
  case round =>
    obtain ⟨k, hk, rfl, rfl, HO, HB⟩ := hrel
    obtain ⟨A1, c1, rfl, hc5, hr5, _⟩ := own_rc HO.out
    have hsb := sumT_bd u k hk
    by_cases hlt : k < u.length
    · obtain ⟨bb, off, rfl, hbb, hcc⟩ := H2.out.form (by rw [bs_len]; omega)
      have h1 := (HB.out.cell (p := ⟨bb, off + k, none⟩) hbb).trans (hcc k _ (bs_at hlt))
      have hs := Hd.mk (sumT_step u k hlt)
      have hl := Hd.mk (ninesT_step u k hlt)
      have hub := u8_lt u[k]
      have hub0 : (0 : Int) ≤ (u[k].toNat : Int) := by omega
      clear hcc hr5
      go_wp2_with (at_builtin; refine app_rc w.heap.size 30 3 (.int .i64 0) 1 8 (.tmp 25) (.tmp 32) rfl rfl Try.underlying30 info_int rfl (by decide) (by decide) (.slice A1 k c1) k (ns (ninesT u k)) [.int .i64 ((u[k].toNat : Int) % 9)] (some ⟨wr.heap.size, 0, none⟩) 1 1 rfl rfl (own_alloc HO.out _) (Rc.one _ _ _) (by simp) (by simp [Value.oneCell']) (Nat.le_trans HB.out.size (by simp)) (by omega) (k + 1) (ns (ninesT u (k + 1))) rfl (by rw [hl.out]; simp [i64v]) ?_; intro v1 w1 ho hg hat; have h2 : w1.cell? ⟨bb, off + k, none⟩ = some (.int .u8 (u[k].toNat : Int)) := hg.cell (by rw [World.cell?_alloc_lt _ _ _ (Nat.lt_of_lt_of_le hbb HB.out.size)]; exact h1) (fun e => by have := (own_lt HO.out bb e.symm).1; omega); have HO1 := Hd.mk ho; have HG := Hd.mk hg; clear ho hg hat)
      go_roundw
      case rel =>
        exact ⟨k + 1, by omega, by go_num, by rw [hs.out], HO1, ⟨below_lift (HB.out.alloc HB.out.size _) (Nat.le_trans HB.out.size (by simp)) HG.out (fun b hb => (own_lt HO.out b hb).1)⟩⟩
      case measure => simp [intOf]; omega
    · obtain rfl : k = u.length := by omega
      rw [ninesT_all] at hr5
      have HR5 := Hd.mk hr5
      clear hr5
      have hsum := cutE_sum (nines u) (nines_nonneg u) b
      have hst : sumT u u.length = (nines u).sum := by unfold sumT; rw [ninesT_all]
      rw [← hst] at hsum
      obtain ⟨S, hS⟩ : ∃ S, sumT u u.length = S := ⟨_, rfl⟩
      rw [hS] at hsum hsb ⊢
      clear hst hS
      by_cases g1 : 400 < b.length
      · have g1' : decide (400 < b.length) = true := by simpa using g1
        go_wp2_with (go_at_call 10; refine (known_calls _).mono ?_; rintro e w1 ⟨rfl, hb⟩)
        go_ret
        exact ⟨rfl, below_then HB.out HB.out.size hb⟩
      · have g1' : decide (400 < b.length) = false := by simpa using g1
        by_cases g2 : 60 < u.length
        · have g2' : decide (60 < u.length) = true := by simpa using g2
          go_wp2_with (go_at_call 10; refine (known_calls _).mono ?_; rintro e w1 ⟨rfl, hb⟩)
          go_ret
          exact ⟨rfl, below_then HB.out HB.out.size hb⟩
        · have g2' : decide (60 < u.length) = false := by simpa using g2
          have HS := Hd.mk hsum
          clear hsum
          go_wp2_with fail
          refine (rjoin_any _ _ _ l _ (H3.out.below HB.out) (by rw [HFL.out.1]; omega) (by omega) rfl).mono ?_
          rintro e w4 ⟨v, rfl, ho, hb⟩
          rw [HFL.out.1] at ho
          obtain ⟨A4, c4, rfl, hc6, _, _⟩ := own_rc ho
          have HB4 := Hd.mk (below_then HB.out HB.out.size hb)
          have HR6 := Hd.mk (HR5.out.below hb)
          clear ho hb hc6
          go_wp2_with fail
          refine (rjoin_any _ _ _ m _ (H4.out.below HB4.out) (by rw [HFL.out.2]; omega) (by omega) rfl).mono ?_
          rintro e w5 ⟨v, rfl, ho, hb⟩
          rw [HFL.out.2] at ho
          obtain ⟨A5, c5, rfl, hc6, _, _⟩ := own_rc ho
          have HB5 := Hd.mk (below_then HB4.out HB4.out.size hb)
          have HR7 := Hd.mk (HR6.out.below hb)
          clear ho hb hc6 HB4 HR6 HB HR5
          by_cases g3 : (600 : Int) < (fl.length : Int) + (fm.length : Int)
          · have g3' : decide ((600 : Int) < (fl.length : Int) + (fm.length : Int)) = true := by simpa using g3
            go_wp2_with (go_at_call 10; refine (known_calls _).mono ?_; rintro e w1 ⟨rfl, hb⟩)
            go_ret
            exact ⟨rfl, below_then HB5.out HB5.out.size hb⟩
          · have g3' : decide ((600 : Int) < (fl.length : Int) + (fm.length : Int)) = false := by simpa using g3
            rcases Int.lt_trichotomy S b.length with hlt | heq | hgt
            · have hE : cutE b (nines u) = 4 := by
                have h0 : ¬ cutE b (nines u) = 0 := fun h => by have := HS.out.1.1 h; omega
                have h3 : ¬ cutE b (nines u) = 3 := fun h => by have := HS.out.2.1 h; omega
                exact cutE_four b (nines u) h0 h3
              have t1 : (S == (b.length : Int)) = false := by rw [beq_eq_false_iff_ne]; omega
              have t2 : decide ((b.length : Int) < S) = false := by simp; omega
              have hL : cutL b (nines u) = [] := by unfold cutL; rw [if_neg (by omega)]
              have HL := Hd.mk (And.intro hE hL)
              clear hE hL
              go_wp2_with fail
              refine (cut_any _ _ _ _ _ _ b (nines u) _ (H1.out.below HB5.out) hc1 HR7.out (by omega) (by rw [nines_len]; omega) rfl (nines_len u).symm).mono ?_
              rw [HL.out.1, HL.out.2]
              rintro e w6 ⟨A6, c6, rfl, hr, hcc, hb⟩
              have HB6 := Hd.mk (below_then HB5.out HB5.out.size hb)
              clear hr hcc hb HB5 HR7

              obtain ⟨vl, hvl, hvl1, hvl2⟩ := (H3.out.below HB6.out)
              have HVL := Hd.mk hvl
              clear hvl
              have hone : ∀ (ls : List (List UInt8)) (vs : List Value), vs.length = ls.length → (∀ (i : Nat) (x : List UInt8), ls[i]? = some x → ∃ a c, vs[i]? = some (Value.slice a x.length c) ∧ x.length ≤ c ∧ Rc w6 a (bs x)) → ∀ v ∈ vs, v.oneCell' = true := by
                intro ls vs h1 h2 v hv
                obtain ⟨i, hi, rfl⟩ := List.mem_iff_getElem.1 hv
                obtain ⟨a, c, h3, _⟩ := h2 i _ (List.getElem?_eq_getElem (by omega))
                rw [List.getElem?_eq_getElem hi] at h3
                rw [Option.some.inj h3]; rfl
              obtain ⟨vm, hvm, hvm1, hvm2⟩ := (H4.out.below HB6.out)
              have HVM := Hd.mk hvm
              have HO1 := Hd.mk (hone l vl hvl1 hvl2)
              have HO2 := Hd.mk (hone m vm hvm1 hvm2)
              have HV := Hd.mk (And.intro hvl2 hvm2)
              clear hvm hone hvl2 hvm2
              go_wp2_with (first
                | (at_builtin; refine app_rc w6.heap.size 31 22 (.slice none 0 0) 1 24 (.tmp 103) (.tmp 104) rfl rfl Try.underlying31 info_bytes rfl (by decide) (by decide) (.slice none 0 0) 0 [] vl C l.length f rfl rfl (World.ownsRow_nil _ _ _ _) HVL.out (by omega) HO1.out (Nat.le_refl _) (by omega) l.length vl (by omega) (by simp) ?_; intro v7 w7 ho hg hat; obtain ⟨A7, c7, rfl, _, _, _⟩ := own_rc ho; have HO7 := Hd.mk ho; have HG7 := Hd.mk hg; clear ho hg hat)
                | (at_builtin; refine app_rc w6.heap.size 31 22 (.slice none 0 0) 1 24 (.tmp 106) (.tmp 107) rfl rfl Try.underlying31 info_bytes rfl (by decide) (by decide) (.slice A7 l.length c7) l.length vl vm D m.length g rfl rfl HO7.out (HVM.out.below (below_nil HG7.out)) (by omega) HO2.out HG7.out.size (by omega) (l ++ m).length (vl ++ vm) (by simp) rfl ?_; intro v8 w8 ho hg hat; obtain ⟨A8, c8, rfl, hc8, hr8, _⟩ := own_rc ho; have HR8 := Hd.mk (And.intro hr8 hc8); have HO8 := Hd.mk ho; have HG8 := Hd.mk hg; clear ho hg hat hr8 hc8)
                | fail)
              have HB8 : Hd (Below w6.heap.size w6 w8) := ⟨below_lift (below_nil HG7.out) HG7.out.size HG8.out (fun k hk => (own_lt HO7.out k hk).1)⟩
              have HALL : Hd (Rcc w8 A8 (l ++ m)) := ⟨⟨vl ++ vm, HR8.out.1, by rw [List.length_append, List.length_append, hvl1, hvm1], by
                intro i x hx
                by_cases hi : i < l.length
                · rw [List.getElem?_append_left hi] at hx
                  obtain ⟨a, c, p, q, r⟩ := HV.out.1 i x hx
                  exact ⟨a, c, by rw [List.getElem?_append_left (by omega)]; exact p, q, r.below HB8.out⟩
                · rw [List.getElem?_append_right (by omega)] at hx
                  obtain ⟨a, c, p, q, r⟩ := HV.out.2 (i - l.length) x hx
                  exact ⟨a, c, by rw [List.getElem?_append_right (by omega), hvl1]; exact p, q, r.below HB8.out⟩⟩⟩
              have hfa : (l ++ m).flatten = fl ++ fm := by rw [List.flatten_append, HFL.out.1, HFL.out.2]
              have HFA := Hd.mk hfa
              have HB08 := Hd.mk (below_then HB6.out HB6.out.size HB8.out)
              clear hfa HB8 HV HVL HVM HO1 HO2 HO7 HG7 HO8 HG8 HR8 hvl1 hvm1
              refine (join_any _ _ _ (l ++ m) _ HALL.out (by rw [HFA.out, List.length_append]; omega) (by rw [List.length_append]; omega) (by simp)).mono ?_
              rintro e w9 ⟨v, rfl, ho, hb⟩
              rw [HFA.out, List.length_append] at ho
              obtain ⟨A9, c9, rfl, _, hr, _⟩ := own_rc ho
              have HR9 := Hd.mk hr
              have HB9 := Hd.mk (below_then HB08.out HB08.out.size hb)
              clear ho hr hb HB08
              go_wp2_with fail
              refine (join_any _ _ _ l _ (H3.out.below HB9.out) (by rw [HFL.out.1]; omega) (by omega) rfl).mono ?_
              rintro e w10 ⟨v, rfl, ho, hb⟩
              rw [HFL.out.1] at ho
              obtain ⟨A10, c10, rfl, hc10, hr, _⟩ := own_rc ho
              have HR10 := Hd.mk hr
              have HR9' := Hd.mk (HR9.out.below hb)
              have HB10 := Hd.mk (below_then HB9.out HB9.out.size hb)
              clear ho hr hb HB9 HR9
              go_wp2_with fail
              refine (join_any _ _ _ m _ (H4.out.below HB10.out) (by rw [HFL.out.2]; omega) (by omega) rfl).mono ?_
              rintro e w11 ⟨v, rfl, ho, hb⟩
              rw [HFL.out.2] at ho
              obtain ⟨A11, c11, rfl, hc11, hr, _⟩ := own_rc ho
              have HR11 := Hd.mk hr
              have HR10' := Hd.mk (HR10.out.below hb)
              have HR9 := Hd.mk (HR9'.out.below hb)
              have HB11 := Hd.mk (below_then HB10.out HB10.out.size hb)
              clear ho hr hb HB10 HR10 HR9'
              go_wp2_with fail
              have hb12 := (Below.refl w11.heap.size w11).alloc (Nat.le_refl _) (.cells #[.slice A10 fl.length c10, .slice A11 fm.length c11] 22)
              refine (join_any _ _ _ [fl, fm] _ (rcc_two 22 HR10'.out HR11.out hc10 hc11 rfl rfl) (by simp; omega) (by simp) rfl).mono ?_
              rw [show [fl, fm].flatten = fl ++ fm by simp]
              rintro e w12 ⟨v, rfl, ho, hb⟩
              rw [List.length_append] at ho
              obtain ⟨A12, c12, rfl, _, hr, _⟩ := own_rc ho
              have hb11 := below_then hb12 (by simp) hb
              have HR12 := Hd.mk hr
              have HR9' := Hd.mk (HR9.out.below hb11)
              have HB12 := Hd.mk (below_then HB11.out HB11.out.size hb11)
              clear ho hr hb hb12 hb11 HB11 HR9 HR10' HR11
              go_wp2_with fail
              refine (same_any _ _ _ _ _ _ (fl ++ fm) (fl ++ fm) _ HR9'.out HR12.out (by simp) (by simp)).mono ?_
              rintro e w13 ⟨rfl, rfl⟩
              rw [show (fl ++ fm == fl ++ fm) = true by simp]
              go_wp2_with fail
              refine (known_calls _).mono ?_
              rintro e w14 ⟨rfl, hb⟩
              have HB14 := Hd.mk (below_then HB12.out HB12.out.size hb)
              clear hb
              go_wp2
              go_ret
              exact ⟨rfl, HB14.out⟩
            · have hE : cutE b (nines u) = 0 := HS.out.1.2 heq
              have hL : cutL b (nines u) = cutR b (nines u) := by unfold cutL; rw [if_pos hE]
              have hcj := cut_join (nines u) (nines_nonneg u) b hE
              have hlen : (cutR b (nines u)).length = u.length := by have := cutP_len b (nines u) (nines u).length (Nat.le_refl _); rw [cutP_all, nines_len] at this; exact this
              obtain ⟨xs, hxs⟩ : ∃ xs, cutR b (nines u) = xs := ⟨_, rfl⟩
              rw [hxs] at hL hcj hlen
              have t1 : (S == (b.length : Int)) = true := by rw [beq_iff_eq]; omega
              have t2 : decide ((b.length : Int) < S) = false := by simp; omega
              have HL := Hd.mk (And.intro hE (And.intro hL (And.intro hcj hlen)))
              clear hE hL hcj hlen hxs heq
              go_wp2_with fail
              refine (cut_any _ _ _ _ _ _ b (nines u) _ (H1.out.below HB5.out) hc1 HR7.out (by omega) (by rw [nines_len]; omega) rfl (nines_len u).symm).mono ?_
              rw [HL.out.1, HL.out.2.1]
              rintro e w6 ⟨A6, c6, rfl, hr, hcc, hb⟩
              rw [HL.out.2.2.2]
              have HR8' := Hd.mk hr
              have HW6 := Hd.mk (HR7.out.below hb)
              have HB6 := Hd.mk (below_then HB5.out HB5.out.size hb)
              clear hr hcc hb HB5 HR7
              go_wp2
              go_loopw [15] (fun i wr => ∃ k : Nat, k ≤ u.length ∧ i = .int .i64 k ∧ Drawn w6 wr) (fun i _ => u.length - (intOf i).toNat)
              case atStart => exact ⟨0, Nat.zero_le _, rfl, Drawn.refl _⟩
              case round =>
                obtain ⟨k, hk, rfl, HDR⟩ := hrel
                by_cases hlt : k < u.length
                · obtain ⟨b1, off1, a1, c8, rfl, hcx, hle, hr⟩ := (HR8'.out.below (HDR.below _)).at k (by rw [HL.out.2.2.2]; exact hlt)
                  obtain ⟨b2, off2, rfl, hb2, hcy⟩ := (HW6.out.below (HDR.below _)).form (by rw [ns_len, nines_len]; omega)
                  have hx2 := hcy k _ (ns_at (by rw [nines_len]; exact hlt))
                  have hl2 := HL.out.2.2.1.2 k (by rw [HL.out.2.2.2]; exact hlt) (by rw [nines_len]; exact hlt)
                  rw [← hl2] at hx2
                  have i1 : (0 : Int) ≤ (k : Int) := by omega
                  have i2 : (k : Int) < (u.length : Int) := by omega
                  clear hr hcy hl2 HR8' HW6
                  go_wp2
                  go_quiet (fail)
                  go_wp2
                  go_roundw
                  case rel => exact ⟨k + 1, by omega, by go_num, HDR.step _⟩
                  case measure => simp [intOf]; omega
                · obtain rfl : k = u.length := by omega
                  have HB7 := Hd.mk (below_then HB6.out HB6.out.size (HDR.below _))
                  have HR9x := Hd.mk (HR8'.out.below (HDR.below _))
                  clear HB6 HR8' HW6 HDR
                  go_wp2_with fail
                  refine (join_any _ _ _ xs _ HR9x.out (by rw [HL.out.2.2.1.1]; omega) (by rw [HL.out.2.2.2]; omega) HL.out.2.2.2.symm).mono ?_
                  rw [HL.out.2.2.1.1]
                  rintro e w6x ⟨v, rfl, ho, hb⟩
                  obtain ⟨A66, c66, rfl, _, hr, _⟩ := own_rc ho
                  have HRX := Hd.mk hr
                  have HB6 := Hd.mk (below_then HB7.out HB7.out.size hb)
                  clear ho hr hb HB7 HR9x
                  go_wp2_with fail
                  refine (same_any _ _ _ _ _ _ b b _ HRX.out (H1.out.below HB6.out) rfl rfl).mono ?_
                  rintro e w6 ⟨rfl, rfl⟩
                  rw [show (b == b) = true by simp]
                  clear HRX
                  obtain ⟨vl, hvl, hvl1, hvl2⟩ := (H3.out.below HB6.out)
                  have HVL := Hd.mk hvl
                  clear hvl
                  have hone : ∀ (ls : List (List UInt8)) (vs : List Value), vs.length = ls.length → (∀ (i : Nat) (x : List UInt8), ls[i]? = some x → ∃ a c, vs[i]? = some (Value.slice a x.length c) ∧ x.length ≤ c ∧ Rc w6 a (bs x)) → ∀ v ∈ vs, v.oneCell' = true := by
                    intro ls vs h1 h2 v hv
                    obtain ⟨i, hi, rfl⟩ := List.mem_iff_getElem.1 hv
                    obtain ⟨a, c, h3, _⟩ := h2 i _ (List.getElem?_eq_getElem (by omega))
                    rw [List.getElem?_eq_getElem hi] at h3
                    rw [Option.some.inj h3]; rfl
                  obtain ⟨vm, hvm, hvm1, hvm2⟩ := (H4.out.below HB6.out)
                  have HVM := Hd.mk hvm
                  have HO1 := Hd.mk (hone l vl hvl1 hvl2)
                  have HO2 := Hd.mk (hone m vm hvm1 hvm2)
                  have HV := Hd.mk (And.intro hvl2 hvm2)
                  clear hvm hone hvl2 hvm2
                  go_wp2_with (first
                    | (at_builtin; refine app_rc w6.heap.size 31 22 (.slice none 0 0) 1 24 (.tmp 103) (.tmp 104) rfl rfl Try.underlying31 info_bytes rfl (by decide) (by decide) (.slice none 0 0) 0 [] vl C l.length f rfl rfl (World.ownsRow_nil _ _ _ _) HVL.out (by omega) HO1.out (Nat.le_refl _) (by omega) l.length vl (by omega) (by simp) ?_; intro v7 w7 ho hg hat; obtain ⟨A7, c7, rfl, _, _, _⟩ := own_rc ho; have HO7 := Hd.mk ho; have HG7 := Hd.mk hg; clear ho hg hat)
                    | (at_builtin; refine app_rc w6.heap.size 31 22 (.slice none 0 0) 1 24 (.tmp 106) (.tmp 107) rfl rfl Try.underlying31 info_bytes rfl (by decide) (by decide) (.slice A7 l.length c7) l.length vl vm D m.length g rfl rfl HO7.out (HVM.out.below (below_nil HG7.out)) (by omega) HO2.out HG7.out.size (by omega) (l ++ m).length (vl ++ vm) (by simp) rfl ?_; intro v8 w8 ho hg hat; obtain ⟨A8, c8, rfl, hc8, hr8, _⟩ := own_rc ho; have HR8 := Hd.mk (And.intro hr8 hc8); have HO8 := Hd.mk ho; have HG8 := Hd.mk hg; clear ho hg hat hr8 hc8)
                    | fail)
                  have HB8 : Hd (Below w6.heap.size w6 w8) := ⟨below_lift (below_nil HG7.out) HG7.out.size HG8.out (fun k hk => (own_lt HO7.out k hk).1)⟩
                  have HALL : Hd (Rcc w8 A8 (l ++ m)) := ⟨⟨vl ++ vm, HR8.out.1, by rw [List.length_append, List.length_append, hvl1, hvm1], by
                    intro i x hx
                    by_cases hi : i < l.length
                    · rw [List.getElem?_append_left hi] at hx
                      obtain ⟨a, c, p, q, r⟩ := HV.out.1 i x hx
                      exact ⟨a, c, by rw [List.getElem?_append_left (by omega)]; exact p, q, r.below HB8.out⟩
                    · rw [List.getElem?_append_right (by omega)] at hx
                      obtain ⟨a, c, p, q, r⟩ := HV.out.2 (i - l.length) x hx
                      exact ⟨a, c, by rw [List.getElem?_append_right (by omega), hvl1]; exact p, q, r.below HB8.out⟩⟩⟩
                  have hfa : (l ++ m).flatten = fl ++ fm := by rw [List.flatten_append, HFL.out.1, HFL.out.2]
                  have HFA := Hd.mk hfa
                  have HB08 := Hd.mk (below_then HB6.out HB6.out.size HB8.out)
                  clear hfa HB8 HV HVL HVM HO1 HO2 HO7 HG7 HO8 HG8 HR8 hvl1 hvm1
                  refine (join_any _ _ _ (l ++ m) _ HALL.out (by rw [HFA.out, List.length_append]; omega) (by rw [List.length_append]; omega) (by simp)).mono ?_
                  rintro e w9 ⟨v, rfl, ho, hb⟩
                  rw [HFA.out, List.length_append] at ho
                  obtain ⟨A9, c9, rfl, _, hr, _⟩ := own_rc ho
                  have HR9 := Hd.mk hr
                  have HB9 := Hd.mk (below_then HB08.out HB08.out.size hb)
                  clear ho hr hb HB08
                  go_wp2_with fail
                  refine (join_any _ _ _ l _ (H3.out.below HB9.out) (by rw [HFL.out.1]; omega) (by omega) rfl).mono ?_
                  rintro e w10 ⟨v, rfl, ho, hb⟩
                  rw [HFL.out.1] at ho
                  obtain ⟨A10, c10, rfl, hc10, hr, _⟩ := own_rc ho
                  have HR10 := Hd.mk hr
                  have HR9' := Hd.mk (HR9.out.below hb)
                  have HB10 := Hd.mk (below_then HB9.out HB9.out.size hb)
                  clear ho hr hb HB9 HR9
                  go_wp2_with fail
                  refine (join_any _ _ _ m _ (H4.out.below HB10.out) (by rw [HFL.out.2]; omega) (by omega) rfl).mono ?_
                  rintro e w11 ⟨v, rfl, ho, hb⟩
                  rw [HFL.out.2] at ho
                  obtain ⟨A11, c11, rfl, hc11, hr, _⟩ := own_rc ho
                  have HR11 := Hd.mk hr
                  have HR10' := Hd.mk (HR10.out.below hb)
                  have HR9 := Hd.mk (HR9'.out.below hb)
                  have HB11 := Hd.mk (below_then HB10.out HB10.out.size hb)
                  clear ho hr hb HB10 HR10 HR9'
                  go_wp2_with fail
                  have hb12 := (Below.refl w11.heap.size w11).alloc (Nat.le_refl _) (.cells #[.slice A10 fl.length c10, .slice A11 fm.length c11] 22)
                  refine (join_any _ _ _ [fl, fm] _ (rcc_two 22 HR10'.out HR11.out hc10 hc11 rfl rfl) (by simp; omega) (by simp) rfl).mono ?_
                  rw [show [fl, fm].flatten = fl ++ fm by simp]
                  rintro e w12 ⟨v, rfl, ho, hb⟩
                  rw [List.length_append] at ho
                  obtain ⟨A12, c12, rfl, _, hr, _⟩ := own_rc ho
                  have hb11 := below_then hb12 (by simp) hb
                  have HR12 := Hd.mk hr
                  have HR9' := Hd.mk (HR9.out.below hb11)
                  have HB12 := Hd.mk (below_then HB11.out HB11.out.size hb11)
                  clear ho hr hb hb12 hb11 HB11 HR9 HR10' HR11
                  go_wp2_with fail
                  refine (same_any _ _ _ _ _ _ (fl ++ fm) (fl ++ fm) _ HR9'.out HR12.out (by simp) (by simp)).mono ?_
                  rintro e w13 ⟨rfl, rfl⟩
                  rw [show (fl ++ fm == fl ++ fm) = true by simp]
                  go_wp2_with fail
                  refine (known_calls _).mono ?_
                  rintro e w14 ⟨rfl, hb⟩
                  have HB14 := Hd.mk (below_then HB12.out HB12.out.size hb)
                  clear hb
                  go_wp2
                  go_ret
                  exact ⟨rfl, HB14.out⟩
            · have hE : cutE b (nines u) = 3 := HS.out.2.2 (by omega)
              have t1 : (S == (b.length : Int)) = false := by rw [beq_eq_false_iff_ne]; omega
              have t2 : decide ((b.length : Int) < S) = true := by simp; omega
              have hL : cutL b (nines u) = [] := by unfold cutL; rw [if_neg (by omega)]
              have HL := Hd.mk (And.intro hE hL)
              clear hE hL
              go_wp2_with fail
              refine (cut_any _ _ _ _ _ _ b (nines u) _ (H1.out.below HB5.out) hc1 HR7.out (by omega) (by rw [nines_len]; omega) rfl (nines_len u).symm).mono ?_
              rw [HL.out.1, HL.out.2]
              rintro e w6 ⟨A6, c6, rfl, hr, hcc, hb⟩
              have HB6 := Hd.mk (below_then HB5.out HB5.out.size hb)
              clear hr hcc hb HB5 HR7

              obtain ⟨vl, hvl, hvl1, hvl2⟩ := (H3.out.below HB6.out)
              have HVL := Hd.mk hvl
              clear hvl
              have hone : ∀ (ls : List (List UInt8)) (vs : List Value), vs.length = ls.length → (∀ (i : Nat) (x : List UInt8), ls[i]? = some x → ∃ a c, vs[i]? = some (Value.slice a x.length c) ∧ x.length ≤ c ∧ Rc w6 a (bs x)) → ∀ v ∈ vs, v.oneCell' = true := by
                intro ls vs h1 h2 v hv
                obtain ⟨i, hi, rfl⟩ := List.mem_iff_getElem.1 hv
                obtain ⟨a, c, h3, _⟩ := h2 i _ (List.getElem?_eq_getElem (by omega))
                rw [List.getElem?_eq_getElem hi] at h3
                rw [Option.some.inj h3]; rfl
              obtain ⟨vm, hvm, hvm1, hvm2⟩ := (H4.out.below HB6.out)
              have HVM := Hd.mk hvm
              have HO1 := Hd.mk (hone l vl hvl1 hvl2)
              have HO2 := Hd.mk (hone m vm hvm1 hvm2)
              have HV := Hd.mk (And.intro hvl2 hvm2)
              clear hvm hone hvl2 hvm2
              go_wp2_with (first
                | (at_builtin; refine app_rc w6.heap.size 31 22 (.slice none 0 0) 1 24 (.tmp 103) (.tmp 104) rfl rfl Try.underlying31 info_bytes rfl (by decide) (by decide) (.slice none 0 0) 0 [] vl C l.length f rfl rfl (World.ownsRow_nil _ _ _ _) HVL.out (by omega) HO1.out (Nat.le_refl _) (by omega) l.length vl (by omega) (by simp) ?_; intro v7 w7 ho hg hat; obtain ⟨A7, c7, rfl, _, _, _⟩ := own_rc ho; have HO7 := Hd.mk ho; have HG7 := Hd.mk hg; clear ho hg hat)
                | (at_builtin; refine app_rc w6.heap.size 31 22 (.slice none 0 0) 1 24 (.tmp 106) (.tmp 107) rfl rfl Try.underlying31 info_bytes rfl (by decide) (by decide) (.slice A7 l.length c7) l.length vl vm D m.length g rfl rfl HO7.out (HVM.out.below (below_nil HG7.out)) (by omega) HO2.out HG7.out.size (by omega) (l ++ m).length (vl ++ vm) (by simp) rfl ?_; intro v8 w8 ho hg hat; obtain ⟨A8, c8, rfl, hc8, hr8, _⟩ := own_rc ho; have HR8 := Hd.mk (And.intro hr8 hc8); have HO8 := Hd.mk ho; have HG8 := Hd.mk hg; clear ho hg hat hr8 hc8)
                | fail)
              have HB8 : Hd (Below w6.heap.size w6 w8) := ⟨below_lift (below_nil HG7.out) HG7.out.size HG8.out (fun k hk => (own_lt HO7.out k hk).1)⟩
              have HALL : Hd (Rcc w8 A8 (l ++ m)) := ⟨⟨vl ++ vm, HR8.out.1, by rw [List.length_append, List.length_append, hvl1, hvm1], by
                intro i x hx
                by_cases hi : i < l.length
                · rw [List.getElem?_append_left hi] at hx
                  obtain ⟨a, c, p, q, r⟩ := HV.out.1 i x hx
                  exact ⟨a, c, by rw [List.getElem?_append_left (by omega)]; exact p, q, r.below HB8.out⟩
                · rw [List.getElem?_append_right (by omega)] at hx
                  obtain ⟨a, c, p, q, r⟩ := HV.out.2 (i - l.length) x hx
                  exact ⟨a, c, by rw [List.getElem?_append_right (by omega), hvl1]; exact p, q, r.below HB8.out⟩⟩⟩
              have hfa : (l ++ m).flatten = fl ++ fm := by rw [List.flatten_append, HFL.out.1, HFL.out.2]
              have HFA := Hd.mk hfa
              have HB08 := Hd.mk (below_then HB6.out HB6.out.size HB8.out)
              clear hfa HB8 HV HVL HVM HO1 HO2 HO7 HG7 HO8 HG8 HR8 hvl1 hvm1
              refine (join_any _ _ _ (l ++ m) _ HALL.out (by rw [HFA.out, List.length_append]; omega) (by rw [List.length_append]; omega) (by simp)).mono ?_
              rintro e w9 ⟨v, rfl, ho, hb⟩
              rw [HFA.out, List.length_append] at ho
              obtain ⟨A9, c9, rfl, _, hr, _⟩ := own_rc ho
              have HR9 := Hd.mk hr
              have HB9 := Hd.mk (below_then HB08.out HB08.out.size hb)
              clear ho hr hb HB08
              go_wp2_with fail
              refine (join_any _ _ _ l _ (H3.out.below HB9.out) (by rw [HFL.out.1]; omega) (by omega) rfl).mono ?_
              rintro e w10 ⟨v, rfl, ho, hb⟩
              rw [HFL.out.1] at ho
              obtain ⟨A10, c10, rfl, hc10, hr, _⟩ := own_rc ho
              have HR10 := Hd.mk hr
              have HR9' := Hd.mk (HR9.out.below hb)
              have HB10 := Hd.mk (below_then HB9.out HB9.out.size hb)
              clear ho hr hb HB9 HR9
              go_wp2_with fail
              refine (join_any _ _ _ m _ (H4.out.below HB10.out) (by rw [HFL.out.2]; omega) (by omega) rfl).mono ?_
              rintro e w11 ⟨v, rfl, ho, hb⟩
              rw [HFL.out.2] at ho
              obtain ⟨A11, c11, rfl, hc11, hr, _⟩ := own_rc ho
              have HR11 := Hd.mk hr
              have HR10' := Hd.mk (HR10.out.below hb)
              have HR9 := Hd.mk (HR9'.out.below hb)
              have HB11 := Hd.mk (below_then HB10.out HB10.out.size hb)
              clear ho hr hb HB10 HR10 HR9'
              go_wp2_with fail
              have hb12 := (Below.refl w11.heap.size w11).alloc (Nat.le_refl _) (.cells #[.slice A10 fl.length c10, .slice A11 fm.length c11] 22)
              refine (join_any _ _ _ [fl, fm] _ (rcc_two 22 HR10'.out HR11.out hc10 hc11 rfl rfl) (by simp; omega) (by simp) rfl).mono ?_
              rw [show [fl, fm].flatten = fl ++ fm by simp]
              rintro e w12 ⟨v, rfl, ho, hb⟩
              rw [List.length_append] at ho
              obtain ⟨A12, c12, rfl, _, hr, _⟩ := own_rc ho
              have hb11 := below_then hb12 (by simp) hb
              have HR12 := Hd.mk hr
              have HR9' := Hd.mk (HR9.out.below hb11)
              have HB12 := Hd.mk (below_then HB11.out HB11.out.size hb11)
              clear ho hr hb hb12 hb11 HB11 HR9 HR10' HR11
              go_wp2_with fail
              refine (same_any _ _ _ _ _ _ (fl ++ fm) (fl ++ fm) _ HR9'.out HR12.out (by simp) (by simp)).mono ?_
              rintro e w13 ⟨rfl, rfl⟩
              rw [show (fl ++ fm == fl ++ fm) = true by simp]
              go_wp2_with fail
              refine (known_calls _).mono ?_
              rintro e w14 ⟨rfl, hb⟩
              have HB14 := Hd.mk (below_then HB12.out HB12.out.size hb)
              clear hb
              go_wp2
              go_ret
              exact ⟨rfl, HB14.out⟩
end Go.Proofs.Ytnplmeljekhkkaa
