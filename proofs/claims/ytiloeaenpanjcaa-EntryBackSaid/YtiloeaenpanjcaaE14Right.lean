/- Walks: may entries be? -/
import Derived.Test.YtiloeaenpanjcaaP14b
import Derived.Test.YtiloeaenpanjcaaE14Known
namespace Go.Proofs.Ytiloeaenpanjcaa
open Go.RowKit Go.Sac
set_option linter.unusedVariables false
set_option linter.unusedSimpArgs false

def prevN (l : List Ent) (i : Nat) : ByteArray := if i = 0 then ⟨#[]⟩ else (l[i - 1]?.getD (⟨#[]⟩, 0)).1
def okX (x : Ent) (p : ByteArray) : Prop := namedL x.1.data.toList = true ∧ gtN x.1 p = true ∧ 1 ≤ x.2 ∧ x.2 ≤ 65535
instance (x : Ent) (p : ByteArray) : Decidable (okX x p) := by unfold okX; exact inferInstance
def okAt (l : List Ent) (i : Nat) : Bool := decide (okX (l[i]?.getD (⟨#[]⟩, 0)) (prevN l i))
def rightE (l : List Ent) : Bool := decide (l.length ≤ 560 ∧ ∀ j, j < l.length → okAt l j = true)
theorem right_no {l : List Ent} {i : Nat} (h : i < l.length) (ho : okAt l i = false) : rightE l = false := by
  unfold rightE
  apply decide_eq_false
  rintro ⟨_, h2⟩
  rw [h2 i h] at ho
  cases ho
theorem ok_ways (x : Ent) (p : ByteArray) : (namedL x.1.data.toList = false ∧ ¬ okX x p) ∨ (namedL x.1.data.toList = true ∧ gtN x.1 p = false ∧ ¬ okX x p) ∨ (namedL x.1.data.toList = true ∧ gtN x.1 p = true ∧ x.2 < 1 ∧ ¬ okX x p) ∨
    (namedL x.1.data.toList = true ∧ gtN x.1 p = true ∧ ¬ x.2 < 1 ∧ x.2 > 65535 ∧ ¬ okX x p) ∨ (namedL x.1.data.toList = true ∧ gtN x.1 p = true ∧ ¬ x.2 < 1 ∧ ¬ x.2 > 65535 ∧ okX x p) := by
  unfold okX
  cases h1 : namedL x.1.data.toList
  · simp
  · cases h2 : gtN x.1 p
    · simp
    · by_cases h3 : x.2 < 1
      · right; right; left; exact ⟨rfl, rfl, h3, by omega⟩
      · by_cases h4 : x.2 > 65535
        · right; right; right; left; exact ⟨rfl, rfl, h3, h4, by omega⟩
        · right; right; right; right; exact ⟨rfl, rfl, h3, h4, rfl, rfl, by omega, by omega⟩
theorem okAt_eq {l : List Ent} {i : Nat} (h : i < l.length) : okAt l i = decide (okX l[i] (prevN l i)) := by
  unfold okAt
  rw [getD_ent l i h]
theorem prevN_succ (l : List Ent) (i : Nat) (h : i < l.length) : prevN l (i + 1) = l[i].1 := by
  unfold prevN
  rw [if_neg (by omega), Nat.add_sub_cancel, getD_ent l i h]
theorem right_all {l : List Ent} (h1 : l.length ≤ 560) (h : ∀ j, j < l.length → okAt l j = true) : rightE l = true := decide_eq_true ⟨h1, h⟩
theorem right_is {l : List Ent} (h : rightE l = true) : l.length ≤ 560 ∧ Rises l ∧ ∀ y ∈ l, namedL y.1.data.toList = true ∧ 1 ≤ y.2 ∧ y.2 ≤ 65535 := by
  obtain ⟨h1, h2⟩ := of_decide_eq_true h
  have h3 : ∀ j, (hj : j < l.length) → okX l[j] (prevN l j) := fun j hj => by
    have := h2 j hj
    rw [okAt_eq hj] at this
    exact of_decide_eq_true this
  refine ⟨h1, ?_, fun y hy => ?_⟩
  · have step : ∀ d i, (hj : i + d + 1 < l.length) → gtN l[i + d + 1].1 (l[i]'(by omega)).1 = true := by
      intro d
      induction d with
      | zero =>
        intro i hj
        have := (h3 (i + 1) hj).2.1
        rw [prevN_succ l i (by omega)] at this
        exact this
      | succ d ih =>
        intro i hj
        have a := ih i (by omega)
        have b := (h3 (i + d + 1 + 1) hj).2.1
        rw [prevN_succ l (i + d + 1) (by omega)] at b
        exact gt_trans a b
    refine List.pairwise_iff_getElem.2 fun i j hi hj hij => ?_
    have := step (j - i - 1) i (by omega)
    simp only [show i + (j - i - 1) + 1 = j by omega] at this
    exact this
  · obtain ⟨j, hj, rfl⟩ := List.mem_iff_getElem.1 hy
    obtain ⟨a, _, b, c⟩ := h3 j hj
    exact ⟨a, b, c⟩
set_option maxHeartbeats 4000000 in
theorem right_calls (A : Option Addr) (n c : Nat) (l : List Ent) (w : World) (hl : Rc w A (ens l)) (e1 : n = l.length) (hn : l.length ≤ 5864062014634) (hs : ∀ y ∈ l, y.1.size ≤ 140737488351232) :
    Calls Try.prog 36 #[.slice A n c] w fun e w' => e = .returned (.bool (rightE l)) ∧ Below w.heap.size w w' := by
  have HL := Hd.mk hl
  have HE := Hd.mk e1
  have HS := Hd.mk hs
  rw [← e1] at hn
  clear hl e1 hs
  by_cases hbig : n > 560
  · have HR : Hd (rightE l = false) := ⟨by unfold rightE; apply decide_eq_false; rintro ⟨h1, _⟩; have := HE.out; omega⟩
    have d1 : decide ((n : Int) > 560) = true := by simp; omega
    clear hbig
    go_enter Try.func36, Try.ntmps36
    go_wp2
    go_ret
    exact ⟨by rw [HR.out]; rfl, Below.refl _ _⟩
  · have d1 : decide ((n : Int) > 560) = false := by simp; omega
    go_enter Try.func36, Try.ntmps36
    go_wp2
    go_loopw [3, 11] (fun lv iv wr => ∃ (i : Nat) (p : ByteArray), iv = .int .i64 (i : Int) ∧ i ≤ n ∧ lv = .string p ∧ Hd (prevN l i = p) ∧ Hd (∀ j, j < i → okAt l j = true) ∧ Hd (Below w.heap.size w wr)) (fun _ iv _ => n - (intOf iv).toNat)
    case atStart => exact ⟨0, ⟨#[]⟩, rfl, Nat.zero_le _, rfl, ⟨rfl⟩, ⟨fun j hj => by omega⟩, ⟨Below.refl _ _⟩⟩
    case round =>
      obtain ⟨i, p, rfl, hi, rfl, HP, HO, HB⟩ := hrel
      by_cases hlt : i < n
      · have hil : i < l.length := by rw [← HE.out]; exact hlt
        have hil2 : (i : Int) < (n : Int) := by omega
        obtain ⟨b, off, rfl, hb, hr⟩ := rcK_form ecs_len (by decide) HL.out (by omega)
        have hx := hr i hil wr HB.out
        have hsz := HS.out _ (List.getElem_mem hil)
        have hok := okAt_eq hil
        have hnx := prevN_succ l i hil
        have hno := right_no hil
        obtain ⟨⟨xn, xk⟩, hx0⟩ : ∃ x, l[i] = x := ⟨_, rfl⟩
        rw [hx0] at hx hsz hok hnx
        rw [HP.out] at hok
        dsimp only at hsz
        have HX := Hd.mk hx
        have HOK := Hd.mk hok
        have HNX : Hd (prevN l (i + 1) = xn) := ⟨hnx⟩
        have HNO := Hd.mk hno
        have HSZ := Hd.mk hsz
        have K0 : Hd (Blk (wr.alloc (.cells #[.string xn, .int .i64 xk] 31)) wr.heap.size 31 (ecs (xn, xk))) := ⟨Blk.new wr _ _⟩
        have HB := Hd.mk (HB.out.alloc HB.out.size (.cells #[.string xn, .int .i64 xk] 31))
        clear hr hx hsz hok hnx hno hx0 hb hil
        rcases ok_ways (xn, xk) p with ⟨h1, h5⟩ | ⟨h1, h2, h5⟩ | ⟨h1, h2, h3, h5⟩ | ⟨h1, h2, h3, h4, h5⟩ | ⟨h1, h2, h3, h4, h5⟩
        · have HNM : Hd (namedL xn.data.toList = false) := ⟨h1⟩
          have HR : Hd (rightE l = false) := ⟨HNO.out (by rw [HOK.out]; exact decide_eq_false h5)⟩
          clear h1 h5
          go_wp2_with (first
            | (refine wpList_ldmid rfl 31 (.tmp 13) rfl b (off + i * 2) rfl [.string xn, .int .i64 xk] _ HX.out Try.underlying31 rfl (ent_info.trans rfl) ?_)
            | (go_at_call 12; refine (named_calls _ _ HSZ.out).mono ?_; rintro e w1 ⟨rfl, hb⟩; rw [HNM.out]; have HB := Hd.mk (below_then HB.out HB.out.size hb); clear hb))
          go_ret
          exact ⟨by rw [HR.out]; rfl, HB.out⟩
        · have HNM : Hd (namedL xn.data.toList = true) := ⟨h1⟩
          have HR : Hd (rightE l = false) := ⟨HNO.out (by rw [HOK.out]; exact decide_eq_false h5)⟩
          rcases gt_ways xn p with ⟨_, g1⟩ | ⟨_, g1, g2⟩ | ⟨g0, _⟩
          rotate_right 1
          · rw [h2] at g0; cases g0
          all_goals
            clear h1 h2 h5
            go_wp2_with (first
              | (refine wpList_ldmid rfl 31 (.tmp 13) rfl b (off + i * 2) rfl [.string xn, .int .i64 xk] _ HX.out Try.underlying31 rfl (ent_info.trans rfl) ?_)
              | (go_at_call 12; refine (named_calls _ _ HSZ.out).mono ?_; rintro e w1 ⟨rfl, hb⟩; rw [HNM.out]; have hc1 : w1.cell? ⟨wr.heap.size, 0, none⟩ = some (.string xn) := (K0.out.below hb K0.out.lt).cell rfl; have HB := Hd.mk (below_then HB.out HB.out.size hb); clear hb))
            go_ret
            exact ⟨by rw [HR.out]; rfl, HB.out⟩
        all_goals
          have HNM : Hd (namedL xn.data.toList = true) := ⟨h1⟩
          rcases gt_ways xn p with ⟨g0, _⟩ | ⟨g0, _, _⟩ | ⟨_, g1, g2⟩
          · rw [h2] at g0; cases g0
          · rw [h2] at g0; cases g0
        · have HR : Hd (rightE l = false) := ⟨HNO.out (by rw [HOK.out]; exact decide_eq_false h5)⟩
          have d3 : decide (xk < 1) = true := by simpa using h3
          clear h1 h2 h3 h5
          go_wp2_with (first
            | (refine wpList_ldmid rfl 31 (.tmp 13) rfl b (off + i * 2) rfl [.string xn, .int .i64 xk] _ HX.out Try.underlying31 rfl (ent_info.trans rfl) ?_)
            | (go_at_call 12; refine (named_calls _ _ HSZ.out).mono ?_; rintro e w1 ⟨rfl, hb⟩; rw [HNM.out]; have hc1 : w1.cell? ⟨wr.heap.size, 0, none⟩ = some (.string xn) := (K0.out.below hb K0.out.lt).cell rfl; have hc2 : w1.cell? ⟨wr.heap.size, 1, none⟩ = some (.int .i64 xk) := (K0.out.below hb K0.out.lt).cell rfl; have HB := Hd.mk (below_then HB.out HB.out.size hb); clear hb))
          go_ret
          exact ⟨by rw [HR.out]; rfl, HB.out⟩
        · have HR : Hd (rightE l = false) := ⟨HNO.out (by rw [HOK.out]; exact decide_eq_false h5)⟩
          have d3 : decide (xk < 1) = false := by simpa using h3
          have d4 : decide (xk > 65535) = true := by simpa using h4
          clear h1 h2 h3 h4 h5
          go_wp2_with (first
            | (refine wpList_ldmid rfl 31 (.tmp 13) rfl b (off + i * 2) rfl [.string xn, .int .i64 xk] _ HX.out Try.underlying31 rfl (ent_info.trans rfl) ?_)
            | (go_at_call 12; refine (named_calls _ _ HSZ.out).mono ?_; rintro e w1 ⟨rfl, hb⟩; rw [HNM.out]; have hc1 : w1.cell? ⟨wr.heap.size, 0, none⟩ = some (.string xn) := (K0.out.below hb K0.out.lt).cell rfl; have hc2 : w1.cell? ⟨wr.heap.size, 1, none⟩ = some (.int .i64 xk) := (K0.out.below hb K0.out.lt).cell rfl; have HB := Hd.mk (below_then HB.out HB.out.size hb); clear hb))
          go_ret
          exact ⟨by rw [HR.out]; rfl, HB.out⟩
        · have HK : Hd (okAt l i = true) := ⟨by rw [HOK.out]; exact decide_eq_true h5⟩
          have d3 : decide (xk < 1) = false := by simpa using h3
          have d4 : decide (xk > 65535) = false := by simpa using h4
          clear h1 h2 h3 h4 h5
          go_wp2_with (first
            | (refine wpList_ldmid rfl 31 (.tmp 13) rfl b (off + i * 2) rfl [.string xn, .int .i64 xk] _ HX.out Try.underlying31 rfl (ent_info.trans rfl) ?_)
            | (go_at_call 12; refine (named_calls _ _ HSZ.out).mono ?_; rintro e w1 ⟨rfl, hb⟩; rw [HNM.out]; have hc1 : w1.cell? ⟨wr.heap.size, 0, none⟩ = some (.string xn) := (K0.out.below hb K0.out.lt).cell rfl; have hc2 : w1.cell? ⟨wr.heap.size, 1, none⟩ = some (.int .i64 xk) := (K0.out.below hb K0.out.lt).cell rfl; have HB := Hd.mk (below_then HB.out HB.out.size hb); clear hb))
          go_roundw
          case rel =>
            refine ⟨i + 1, xn, by go_num, by omega, rfl, HNX, ⟨fun j hj => ?_⟩, HB⟩
            rcases (show j < i ∨ j = i by omega) with h | rfl
            · exact HO.out j h
            · exact HK.out
          case measure => simp [intOf]; omega
      · obtain rfl : i = n := by omega
        have HR : Hd (rightE l = true) := ⟨right_all (by rw [← HE.out]; omega) (fun j hj => HO.out j (by rw [HE.out]; exact hj))⟩
        go_wp2
        go_ret
        exact ⟨by rw [HR.out]; rfl, HB.out⟩
end Go.Proofs.Ytiloeaenpanjcaa
