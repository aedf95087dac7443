/- The law BitsFree, walked. -/
import Derived.Test.YtpgkfabiflhkfaaB12LawFirst
import Derived.Test.YtpgkfabiflhkfaaP12e
namespace Go.Proofs.Ytpgkfabiflhkfaa
open Go.RowKit Go.Sac
set_option linter.unusedVariables false
set_option linter.unusedSimpArgs false

theorem some_eq (A : Option Addr) (n c : Nat) (b : List UInt8) (m f t : Int) (l : List Int) (x : Int) (q : Nat) (w : World) (hb : Rc w A (bs b)) (hn : b.length ≤ 1099511627776) (e1 : n = b.length) (hl : soL b m f t = l) (hx : soE b m f t = x) (hq : l.length = q) :
    Calls Try.prog 10 #[.slice A n c, .int .i64 m, .int .i64 f, .int .i64 t] w fun e w' => ∃ A' c', e = .returned (.tuple #[.slice A' q c', .int .i64 x]) ∧ Rc w' A' (ns l) ∧ Below w.heap.size w w' := by
  subst hl; subst hx; subst hq
  refine (some_any A n c b m f t w hb hn e1).mono ?_
  rintro e w' ⟨A', c', h1, _, h3, h4⟩
  exact ⟨A', c', h1, h3, h4⟩

/-- The row, with the first k of l taken. -/
def takenT (b : List UInt8) (l : List Int) : Nat → List UInt8
  | 0 => b
  | k + 1 => setI (takenT b l k) (l.getD k 0) true
theorem takenT_len (b : List UInt8) (l : List Int) (k : Nat) : (takenT b l k).length = b.length := by
  induction k with
  | zero => rfl
  | succ k ih => rw [takenT, setI_len, ih]
theorem takenT_free (b : List UInt8) (lo m : Nat) (k : Nat) (hk : k ≤ m) (hm : m ≤ (frT b lo (8 * b.length)).length) :
    frT (takenT b ((frT b lo (8 * b.length)).take m) k) lo (8 * b.length) = (frT b lo (8 * b.length)).drop k := by
  induction k with
  | zero => rfl
  | succ k ih =>
    have ih := ih (by omega)
    have hlt : k < (frT b lo (8 * b.length)).length := by omega
    obtain ⟨j, hj, _, hj8, _⟩ := frT_mem b lo (8 * b.length) _ (List.getElem_mem hlt)
    have hg : ((frT b lo (8 * b.length)).take m).getD k 0 = (j : Int) := by
      rw [List.getD_eq_getElem?_getD, List.getElem?_take_of_lt (by omega), List.getElem?_eq_getElem hlt, Option.getD_some, hj]
    rw [takenT, hg, setI_nat _ j true (by rw [takenT_len]; exact hj8)]
    have hd : (frT b lo (8 * b.length)).drop k = (j : Int) :: (frT b lo (8 * b.length)).drop (k + 1) := by
      rw [List.drop_eq_getElem_cons hlt, hj]
    rw [hd] at ih
    exact frT_tail _ j lo _ _ (by rw [takenT_len]; exact hj8) ih

set_option maxHeartbeats 8000000 in
theorem free_not (A : Option Addr) (c : Nat) (b : List UInt8) (f m cn : Nat) (w : World) (hb : Rc w A (bs b)) (hd2 : (b.length : Int) ≤ 60) (hf : f ≤ 255) (hm8 : m ≤ 255)
    (hcn : cnT b f (8 * b.length) = cn) (hsum : (frT b f (8 * b.length)).length + cn = 8 * b.length - f) (hm : (frT b f (8 * b.length)).length < m) :
    Calls Try.prog 5 #[.slice A b.length c, .int .u8 (f : Int), .int .u8 (m : Int)] w (RetT w) := by
  have HL := Hd.mk hb
  have HN : Hd (b.length ≤ 1099511627776) := ⟨by omega⟩
  have HSL : Hd (soL b (m : Int) (f : Int) (8 * (b.length : Int)) = []) := ⟨by unfold soL; rw [hiT_all, Int.toNat_natCast, if_neg (by omega)]⟩
  have HSE : Hd (soE b (m : Int) (f : Int) (8 * (b.length : Int)) = 12) := ⟨by unfold soE; rw [hiT_all, Int.toNat_natCast, if_neg (by omega)]⟩
  have HCN : Hd (((cnT b (f : Int).toNat (hiT b (8 * (b.length : Int))) : Nat) : Int) = (cn : Int)) := ⟨by rw [hiT_all, Int.toNat_natCast, hcn]⟩
  have hle : cn ≤ 480 := by rw [← hcn]; have := cnT_le b f (8 * b.length); omega
  obtain ⟨g, hg⟩ : ∃ g : Nat, max (8 * (b.length : Int) - (f : Int)) 0 = (g : Int) := ⟨8 * b.length - f, by omega⟩
  have hg8 : g ≤ 480 := by omega
  have hmg : decide ((m : Int) ≤ (g : Int) - (cn : Int)) = false := by rw [decide_eq_false_iff_not]; omega
  clear hb hcn hsum hm
  go_enter Try.func5, Try.ntmps5
  go_wp2_with (first
    | (go_at_call 10; refine (some_eq _ _ _ b _ _ _ [] _ 0 _ HL.out HN.out rfl HSL.out HSE.out rfl).mono ?_; rintro e w1 ⟨A1, c1, rfl, hr, hB⟩; have HB := Hd.mk hB; have HL := Hd.mk (HL.out.below hB); clear hB hr)
    | (go_at_call 20; refine (bcount_eq _ _ _ b _ _ _ _ HL.out HN.out rfl HCN.out).mono ?_; rintro e w5 ⟨rfl, rfl⟩)
    | (go_at_call 9; refine (known_calls _).mono ?_; rintro e w8 ⟨rfl, hB⟩; have HB := Hd.mk (below_then HB.out HB.out.size hB); clear hB))
  go_ret
  exact ⟨rfl, HB.out⟩

theorem taken_step (b : List UInt8) (f m k : Nat) (l : List Int) (x : Int) (hl : l = (frT b f (8 * b.length)).take m) (hm : m ≤ (frT b f (8 * b.length)).length) (hk : k < m) (hx : l[k]? = some x) :
    fiT (takenT b l k) (f : Int) (8 * (b.length : Int)) = x ∧ getI (takenT b l k) x = false ∧ setI (takenT b l k) x true = takenT b l (k + 1) ∧ ∀ y, 0 < k → l[k - 1]? = some y → y < x := by
  have hfree := takenT_free b f m k (Nat.le_of_lt hk) hm
  rw [← hl] at hfree
  have hlt : k < (frT b f (8 * b.length)).length := by omega
  have hx2 : (frT b f (8 * b.length))[k] = x := by
    rw [hl, List.getElem?_take_of_lt hk, List.getElem?_eq_getElem hlt] at hx
    exact Option.some.inj hx
  have hd : (frT b f (8 * b.length)).drop k = x :: (frT b f (8 * b.length)).drop (k + 1) := by rw [List.drop_eq_getElem_cons hlt, hx2]
  rw [hd] at hfree
  have hh : hiT (takenT b l k) (8 * (b.length : Int)) = 8 * b.length := by unfold hiT; rw [takenT_len]; omega
  refine ⟨by unfold fiT; rw [hh, Int.toNat_natCast, hfree]; rfl, ?_, ?_, ?_⟩
  · obtain ⟨j, rfl, _, h8, hg⟩ := frT_mem (takenT b l k) f (8 * b.length) x (by rw [hfree]; simp)
    rw [getI_nat _ j (by rw [takenT_len]; exact h8)]; exact hg
  · rw [takenT, List.getD_eq_getElem?_getD, hx, Option.getD_some]
  · intro y h0 hy
    rw [hl, List.getElem?_take_of_lt (by omega), List.getElem?_eq_getElem (by omega)] at hy
    have hy2 := Option.some.inj hy
    have hr := frT_rise b f (8 * b.length)
    rw [← hy2, ← hx2]
    exact (List.pairwise_iff_getElem.1 hr) (k - 1) k (by omega) hlt (by omega)

set_option maxHeartbeats 8000000 in
theorem free_yes (A : Option Addr) (c : Nat) (b : List UInt8) (f m cn : Nat) (w : World) (hb : Rc w A (bs b)) (hd2 : (b.length : Int) ≤ 60) (hf : f ≤ 255) (hm8 : m ≤ 255)
    (hcn : cnT b f (8 * b.length) = cn) (hsum : (frT b f (8 * b.length)).length + cn = 8 * b.length - f) (hm : m ≤ (frT b f (8 * b.length)).length) :
    Calls Try.prog 5 #[.slice A b.length c, .int .u8 (f : Int), .int .u8 (m : Int)] w (RetT w) := by
  have HL := Hd.mk hb
  have HN : Hd (b.length ≤ 1099511627776) := ⟨by omega⟩
  obtain ⟨l, hl⟩ : ∃ l, l = (frT b f (8 * b.length)).take m := ⟨_, rfl⟩
  have hlm : l.length = m := by rw [hl, List.length_take]; omega
  have HLM := Hd.mk hlm
  have HSL : Hd (soL b (m : Int) (f : Int) (8 * (b.length : Int)) = l) := ⟨by unfold soL; rw [hiT_all, Int.toNat_natCast, if_pos (by omega), hl]; rfl⟩
  have HSE : Hd (soE b (m : Int) (f : Int) (8 * (b.length : Int)) = 0) := ⟨by unfold soE; rw [hiT_all, Int.toNat_natCast, if_pos (by omega)]⟩
  have HCN : Hd (((cnT b (f : Int).toNat (hiT b (8 * (b.length : Int))) : Nat) : Int) = (cn : Int)) := ⟨by rw [hiT_all, Int.toNat_natCast, hcn]⟩
  have hle : cn ≤ 480 := by rw [← hcn]; have := cnT_le b f (8 * b.length); omega
  obtain ⟨g, hg⟩ : ∃ g : Nat, max (8 * (b.length : Int) - (f : Int)) 0 = (g : Int) := ⟨8 * b.length - f, by omega⟩
  have hg8 : g ≤ 480 := by omega
  have hmg : decide ((m : Int) ≤ (g : Int) - (cn : Int)) = true := by rw [decide_eq_true_eq]; omega
  have hmg2 : (m : Int) ≤ (g : Int) - (cn : Int) := by omega
  have HST := Hd.mk (fun (k : Nat) (x : Int) (hk : k < m) (hx : l[k]? = some x) => taken_step b f m k l x hl hm hk hx)
  have HT : Hd (∀ k, (takenT b l k).length = b.length) := ⟨takenT_len b l⟩
  clear hb hcn hsum hm hl hlm
  go_enter Try.func5, Try.ntmps5
  go_wp2_with (first
    | (go_at_call 10; refine (some_eq _ _ _ b _ _ _ l _ m _ HL.out HN.out rfl HSL.out HSE.out HLM.out).mono ?_; rintro e w1 ⟨A1, c1, rfl, hr, hB⟩; have HB := Hd.mk hB; have HL := Hd.mk (HL.out.below hB); have HX := Hd.mk hr; clear hB hr)
    | (go_at_call 20; refine (bcount_eq _ _ _ b _ _ _ _ HL.out HN.out rfl HCN.out).mono ?_; rintro e w5 ⟨rfl, rfl⟩))
  go_loopw [6, 11, 12, 13] (fun r cs i _ wr => r = .bool false ∧ ∃ k : Nat, k ≤ m ∧ i = .int .i64 k ∧ (∃ Ak ck, cs = .slice Ak b.length ck ∧ Hd (Rc wr Ak (bs (takenT b l k)))) ∧ Hd (Below w5.heap.size w5 wr)) (fun _ _ i _ _ => m - (intOf i).toNat)
  case atStart => exact ⟨rfl, 0, Nat.zero_le _, rfl, ⟨A, c, rfl, ⟨HL.out⟩⟩, ⟨Below.refl _ _⟩⟩
  case round =>
    obtain ⟨rfl, k, hk, rfl, ⟨Ak, ck, rfl, HR⟩, HC⟩ := hrel
    by_cases hlt : k < m
    · obtain ⟨g1, off, rfl, _, hcell⟩ := (HX.out.below HC.out).form (by rw [ns_len, HLM.out]; omega)
      have hkl : k < l.length := by rw [HLM.out]; exact hlt
      have hc1 := hcell k _ (ns_at hkl)
      obtain ⟨x, hx⟩ : ∃ x, x = l[k] := ⟨_, rfl⟩
      rw [← hx] at hc1
      obtain ⟨s1, s2, s3, s4⟩ := HST.out k x hlt (by rw [hx]; exact List.getElem?_eq_getElem hkl)
      have H1 := Hd.mk s1; have H2 := Hd.mk s2; have H3 := Hd.mk s3
      have HN2 : Hd ((takenT b l k).length ≤ 1099511627776) := ⟨by rw [HT.out]; exact HN.out⟩
      have hxx : (x != x) = false := by simp
      have hk255 : k < 255 := by omega
      by_cases hk0 : k = 0
      · subst hk0
        rw [Nat.add_zero] at hc1
        clear s1 s2 s3 s4 hx hcell
        go_wp2_with (first
          | (go_at_call 17; refine (first_eq _ _ _ (takenT b l 0) _ _ _ _ HR.out HN2.out (HT.out 0).symm H1.out).mono ?_; rintro e w6 ⟨rfl, hB⟩; have HR := Hd.mk (HR.out.below hB); have HC := Hd.mk (below_then HC.out HC.out.size hB); have hc1 := (hB.cell (p := ⟨g1, off, none⟩) (World.block_lt_of_cell? _ _ hc1)).trans hc1; clear hB)
          | (go_at_call 12; refine (bget_eq _ _ _ (takenT b l 0) _ _ _ HR.out HN2.out (HT.out 0).symm H2.out).mono ?_; rintro e w7 ⟨rfl, rfl⟩)
          | (go_at_call 15; refine (bset_eq _ _ _ (takenT b l 0) (takenT b l (0 + 1)) _ _ _ HR.out HN2.out (HT.out 0).symm H3.out).mono ?_; rintro e w8 ⟨A4, c4, rfl, hr, hB⟩; rw [HT.out]; have HC := Hd.mk (below_then HC.out HC.out.size hB); have HR := Hd.mk hr; clear hr hB))
        go_roundw
        case rel => exact ⟨rfl, 1, by omega, by go_num, ⟨_, _, rfl, HR⟩, HC⟩
        case measure => simp [intOf]; omega
      · have hkl1 : k - 1 < l.length := by omega
        have hc2 := hcell (k - 1) _ (ns_at hkl1)
        obtain ⟨y, hy⟩ : ∃ y, y = l[k - 1] := ⟨_, rfl⟩
        rw [← hy] at hc2
        have hyx := s4 y (by omega) (by rw [hy]; exact List.getElem?_eq_getElem hkl1)
        have hyx2 : decide (x ≤ y) = false := by rw [decide_eq_false_iff_not]; omega
        have hk0' : 0 < k := by omega
        clear s1 s2 s3 s4 hx hcell hy
        go_wp2_with (first
          | (go_at_call 17; refine (first_eq _ _ _ (takenT b l k) _ _ _ _ HR.out HN2.out (HT.out k).symm H1.out).mono ?_; rintro e w6 ⟨rfl, hB⟩; have HR := Hd.mk (HR.out.below hB); have HC := Hd.mk (below_then HC.out HC.out.size hB); have hc1 := (hB.cell (p := ⟨g1, off + k, none⟩) (World.block_lt_of_cell? _ _ hc1)).trans hc1; have hc2 := (hB.cell (p := ⟨g1, off + (k - 1), none⟩) (World.block_lt_of_cell? _ _ hc2)).trans hc2; clear hB)
          | (go_at_call 12; refine (bget_eq _ _ _ (takenT b l k) _ _ _ HR.out HN2.out (HT.out k).symm H2.out).mono ?_; rintro e w7 ⟨rfl, rfl⟩)
          | (go_at_call 15; refine (bset_eq _ _ _ (takenT b l k) (takenT b l (k + 1)) _ _ _ HR.out HN2.out (HT.out k).symm H3.out).mono ?_; rintro e w8 ⟨A4, c4, rfl, hr, hB⟩; rw [HT.out]; have HC := Hd.mk (below_then HC.out HC.out.size hB); have HR := Hd.mk hr; clear hr hB))
        go_roundw
        case rel => exact ⟨rfl, k + 1, by omega, by go_num, ⟨_, _, rfl, HR⟩, HC⟩
        case measure => simp [intOf]; omega
    · obtain rfl : k = m := by omega
      go_wp2_with (go_at_call 9; refine (known_calls _).mono ?_; rintro e w8 ⟨rfl, hB⟩; have HC := Hd.mk (below_then HC.out HC.out.size hB); clear hB)
      go_ret
      exact ⟨rfl, below_then HB.out HB.out.size HC.out⟩

set_option maxHeartbeats 4000000 in
theorem lawFree (A : Option Addr) (c : Nat) (b : List UInt8) (f m : Int) (w : World) (hb : Rc w A (bs b)) (hc : b.length ≤ c) (hn : b.length ≤ 140737488351232)
    (h1 : 0 ≤ f ∧ f ≤ 255) (h2 : 0 ≤ m ∧ m ≤ 255) :
    Calls Try.prog 5 #[.slice A b.length c, .int .u8 f, .int .u8 m] w (RetT w) := by
  by_cases hbig : b.length > 60
  · have hd : decide ((b.length : Int) > 60) = true := by simp; omega
    have hd2 : (60 : Int) < (b.length : Int) := by omega
    clear hb hc
    go_enter Try.func5, Try.ntmps5
    go_wp2_with (go_at_call 9; refine (known_calls _).mono ?_; rintro e w1 ⟨rfl, hB⟩; have HB := Hd.mk hB; clear hB)
    go_ret
    exact ⟨rfl, HB.out⟩
  · obtain ⟨f, rfl⟩ := Int.eq_ofNat_of_zero_le h1.1
    obtain ⟨m, rfl⟩ := Int.eq_ofNat_of_zero_le h2.1
    by_cases hm : m ≤ (frT b f (8 * b.length)).length
    · exact free_yes A c b f m _ w hb (by omega) (by omega) (by omega) rfl (frT_count b f _) hm
    · exact free_not A c b f m _ w hb (by omega) (by omega) (by omega) rfl (frT_count b f _) (by omega)
end Go.Proofs.Ytpgkfabiflhkfaa
