/- Walks: rows of entries copied; the first entry beyond a name. -/
import Derived.Test.YtiloeaenpanjcaaE14At
import Derived.Test.YtiloeaenpanjcaaBase13
namespace Go.Proofs.Ytiloeaenpanjcaa
open Go.RowKit Go.Sac
set_option linter.unusedVariables false
set_option linter.unusedSimpArgs false

theorem ens_len (l : List Ent) : (ens l).length = l.length * 2 := rowK_len ecs_len l
theorem ens_one (l : List Ent) : ∀ u ∈ ens l, u.oneCell' = true := rowK_one (fun x u hu => by simp [ecs] at hu; rcases hu with rfl | rfl <;> rfl) l
theorem ens_app (l m : List Ent) : ens (l ++ m) = ens l ++ ens m := rowK_app l m
theorem ens_single (x : Ent) : ens [x] = ecs x := rowK_single x
theorem info_ent : (Try.prog.info? 31).map (fun i => (i.zero, i.size, i.bytes)) = some (some (.agg #[.string ⟨#[]⟩, .int .i64 0]), 2, 24) := by kernel_rfl
theorem ens_take (l : List Ent) (k : Nat) (h : k ≤ l.length) : (ens l).take (k * 2) = ens (l.take k) := by
  conv => lhs; rw [← List.take_append_drop k l]
  rw [ens_app, List.take_left' (by rw [ens_len, List.length_take, Nat.min_eq_left h])]
theorem ens_drop (l : List Ent) (k : Nat) (h : k ≤ l.length) : (ens l).drop (k * 2) = ens (l.drop k) := by
  conv => lhs; rw [← List.take_append_drop k l]
  rw [ens_app, List.drop_left' (by rw [ens_len, List.length_take, Nat.min_eq_left h])]
/-- is the one beyond the other? -/
def gtN (a b : ByteArray) : Bool := !Op.bytesLess a.toList b.toList && !(a.toList == b.toList)
theorem less_cb : ∀ (a b : List UInt8), Op.bytesLess a b = decide (Lib.compareBytes a b < 0)
  | [], [] => by simp [Op.bytesLess, Lib.compareBytes]
  | [], y :: b => by simp [Op.bytesLess, Lib.compareBytes]
  | x :: a, [] => by simp [Op.bytesLess, Lib.compareBytes]
  | x :: a, y :: b => by
    have ih := less_cb a b
    simp only [Op.bytesLess, Lib.compareBytes, ih]
    by_cases p1 : x < y
    · simp [p1]
    · by_cases p2 : y < x
      · have : ¬ x = y := by rintro rfl; exact absurd p2 (by simp)
        simp [p1, p2, this]
      · have : x = y := by
          simp only [UInt8.lt_iff_toNat_lt] at p1 p2
          exact UInt8.toNat_inj.1 (by omega)
        simp [this]
theorem gtN_cmp (a b : ByteArray) : gtN a b = decide (0 < cmpN a b) := by
  unfold gtN
  rw [str_list, str_list, less_cb]
  have h := cb_eq a.data.toList b.data.toList
  have h2 : (a.data.toList == b.data.toList) = decide (cmpN a b = 0) := by
    rw [Bool.eq_iff_iff, beq_iff_eq, decide_eq_true_eq]; exact h.symm
  rw [h2]
  unfold cmpN
  by_cases h3 : Lib.compareBytes a.data.toList b.data.toList < 0
  · simp [h3]; omega
  · by_cases h4 : Lib.compareBytes a.data.toList b.data.toList = 0
    · simp [h4]
    · simp [h3, h4]; omega
/-- what a row of entries that a call makes is -/
def RetL (l : List Ent) (w : World) (e : Ending) (w' : World) : Prop := ∃ v, e = .returned v ∧ w'.ownsRow w.heap.size 31 2 v l.length (ens l) ∧ Below w.heap.size w w'
theorem q25 (w : World) (a : Option Addr) (n c n' c' : Nat) : (binOp .eql 25 (.slice a n c) (.slice none n' c')).run Try.prog w = .ok (.bool a.isNone) w := Lib.run_eql_slice_nil w _ _ a n c n' c' Try.underlying25
set_option maxHeartbeats 1000000 in
theorem clone_calls (A : Option Addr) (n c : Nat) (l : List Ent) (w : World) (hl : Rc w A (ens l)) (e1 : n = l.length) (hn : l.length ≤ 5864062014634) :
    Calls Try.prog 33 #[.slice A n c] w (RetL l w) := by
  have HL := Hd.mk hl
  have HE := Hd.mk e1
  have HN := Hd.mk hn
  have q := q25
  clear hl e1 hn
  rcases A with _ | ⟨b, off, sp⟩
  · have h0 : l = [] := by
      cases l with
      | nil => rfl
      | cons x r => obtain ⟨b, off, h, _⟩ := HL.out 0 (.string x.1) rfl; cases h
    go_enter Try.func33, Try.ntmps33
    go_wp2
    go_ret
    subst h0
    exact ⟨_, rfl, World.ownsRow_nil _ _ _ _, Below.refl _ _⟩
  · go_enter Try.func33, Try.ntmps33
    go_wp2_with (at_builtin; refine app_rc w.heap.size 25 31 _ 2 24 _ _ rfl rfl Try.underlying25 info_ent rfl (by decide) (by decide) _ 0 [] (ens l) _ n c rfl rfl (World.ownsRow_made w #[] 0 (Nat.le_refl _) (Nat.zero_le _) rfl) (HL.out.alloc _) (by rw [ens_len, HE.out]) (ens_one l) (by simp) (by have := HE.out; have := HN.out; omega) l.length (ens l) (by rw [HE.out]; simp) rfl ?_; intro v1 w1 ho hg hat; have HO := Hd.mk ho; have HG := Hd.mk hg; clear ho hg hat)
    go_ret
    exact ⟨v1, rfl, HO.out, below_lift ((Below.refl _ w).alloc (Nat.le_refl _) _) (by simp) HG.out (by intro k hk; exact Nat.le_of_eq (Option.some.inj hk))⟩
/-- an entry's name, beyond another one's? -/
theorem put1_calls (x y : Ent) (g : Nat) (w : World) (hy : Blk w g 31 (ecs y)) : Calls Try.prog 31 #[ev x, .pointer (some ⟨g, 0, none⟩)] w fun e w' => e = .returned (.bool (gtN x.1 y.1)) ∧ Below w.heap.size w w' := by
  obtain ⟨a, n⟩ := x
  obtain ⟨b, m⟩ := y
  have hlt := hy.lt
  have hc : (w.alloc (.cells #[.string a, .int .i64 n] 31)).cell? ⟨g, 0, none⟩ = some (.string b) := (hy.alloc _).cell rfl
  have HB : Hd (Below w.heap.size w (w.alloc (.cells #[.string a, .int .i64 n] 31))) := ⟨(Below.refl _ w).alloc (Nat.le_refl _) _⟩
  clear hy
  unfold ev
  go_enter Try.func31, Try.ntmps31
  go_wp2
  go_ret
  exact ⟨rfl, HB.out⟩
/-- where the first one beyond is; -1: nowhere -/
def idxE (l : List Ent) (y : Ent) : Int := match l.findIdx? (fun x => gtN x.1 y.1) with | some k => (k : Int) | none => -1
theorem idxE_some {l : List Ent} {y : Ent} {k : Nat} (hk : k < l.length) (h : gtN l[k].1 y.1 = true) (hb : ∀ j, (hj : j < l.length) → j < k → gtN l[j].1 y.1 = false) : idxE l y = (k : Int) := by
  unfold idxE
  have : l.findIdx? (fun x => gtN x.1 y.1) = some k := by
    rw [List.findIdx?_eq_some_iff_getElem]
    exact ⟨hk, h, fun j hj => by simpa using hb j (by omega) hj⟩
  rw [this]
theorem idxE_none {l : List Ent} {y : Ent} (hb : ∀ j, (hj : j < l.length) → gtN l[j].1 y.1 = false) : idxE l y = -1 := by
  unfold idxE
  have : l.findIdx? (fun x => gtN x.1 y.1) = none := by
    rw [List.findIdx?_eq_none_iff]
    intro x hx
    obtain ⟨j, hj, rfl⟩ := List.mem_iff_getElem.1 hx
    exact hb j hj
  rw [this]
set_option maxHeartbeats 4000000 in
theorem index_calls (A : Option Addr) (n c : Nat) (l : List Ent) (y : Ent) (g : Nat) (w : World) (hl : Rc w A (ens l)) (hy : Blk w g 31 (ecs y)) (e1 : n = l.length) (hn : l.length ≤ 5864062014634) :
    Calls Try.prog 30 #[.slice A n c, .func (.func 31) #[] #[.pointer (some ⟨g, 0, none⟩)]] w fun e w' => e = .returned (.int .i64 (idxE l y)) ∧ Below w.heap.size w w' := by
  have HL := Hd.mk hl
  have HY := Hd.mk hy
  have HN := Hd.mk e1.symm
  rw [← e1] at hn
  clear hl e1 hy
  go_enter Try.func30, Try.ntmps30
  go_wp2
  go_loopw [8] (fun iv wr => ∃ i : Nat, iv = .int .i64 (i : Int) ∧ i ≤ n ∧ Hd (∀ k, (hk : k < l.length) → k < i → gtN l[k].1 y.1 = false) ∧ Hd (Below w.heap.size w wr)) (fun iv _ => n - (intOf iv).toNat)
  case atStart => exact ⟨0, rfl, Nat.zero_le _, ⟨fun k hk h => by omega⟩, ⟨Below.refl _ _⟩⟩
  case round =>
    obtain ⟨i, rfl, hi, HI, HB⟩ := hrel
    by_cases hlt : i < n
    · have hil : i < l.length := by rw [HN.out]; exact hlt
      obtain ⟨b, off, rfl, hb, hr⟩ := rcK_form ecs_len (by decide) HL.out (by omega)
      have hx := hr i hil wr HB.out
      obtain ⟨x, hx0⟩ : ∃ x, l[i] = x := ⟨_, rfl⟩
      rw [hx0] at hx
      have HXC := Hd.mk hx
      have HX : Hd (∀ hk : i < l.length, l[i] = x) := ⟨fun _ => hx0⟩
      clear hr hx hx0 hb
      cases hg : gtN x.1 y.1
      · have HG := Hd.mk hg
        clear hil hg
        go_wp2_with (first
          | (refine wpList_ldmid rfl 31 (.tmp 14) rfl b (off + i * 2) rfl _ _ HXC.out Try.underlying31 rfl (ent_info.trans rfl) ?_)
          | (go_at_call 31; refine (put1_calls x y g _ (HY.out.below HB.out HY.out.lt)).mono ?_; rintro e w2 ⟨rfl, hb⟩; rw [HG.out]; have HB2 := Hd.mk (below_then HB.out HB.out.size hb); clear hb))
        go_roundw
        case rel =>
          refine ⟨i + 1, by go_num, by omega, ⟨fun k hk hki => ?_⟩, HB2⟩
          rcases (show k < i ∨ k = i by omega) with h | rfl
          · exact HI.out k hk h
          · rw [HX.out hk]; exact HG.out
        case measure => simp [intOf]; omega
      · have HG := Hd.mk hg
        have HE : Hd (idxE l y = (i : Int)) := ⟨idxE_some hil (by rw [HX.out hil]; exact hg) HI.out⟩
        clear hil hg
        go_wp2_with (first
          | (refine wpList_ldmid rfl 31 (.tmp 14) rfl b (off + i * 2) rfl _ _ HXC.out Try.underlying31 rfl (ent_info.trans rfl) ?_)
          | (go_at_call 31; refine (put1_calls x y g _ (HY.out.below HB.out HY.out.lt)).mono ?_; rintro e w2 ⟨rfl, hb⟩; rw [HG.out]; have HB2 := Hd.mk (below_then HB.out HB.out.size hb); clear hb))
        go_ret
        exact ⟨by rw [HE.out]; rfl, HB2.out⟩
    · obtain rfl : i = n := by omega
      have HE : Hd (idxE l y = -1) := ⟨idxE_none fun j hj => HI.out j hj (by have := HN.out; omega)⟩
      go_wp2
      go_ret
      exact ⟨by rw [HE.out]; rfl, HB.out⟩
end Go.Proofs.Ytiloeaenpanjcaa
