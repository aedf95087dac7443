/- Walks: a path's text. -/
import Derived.Lib.Join
import Derived.Test.YtncagcbdgimpfaaDoorT15Small
namespace Go.Proofs.YtncagcbdgimpfaaDoor
open Go.RowKit Go.Sac Go.Shelf
set_option linter.unusedVariables false
set_option linter.unusedSimpArgs false

/-- texts, a slash between -/
def joinL (xs : List ByteArray) : List UInt8 := Lib.join (xs.map (·.data.toList)) [47]
def printL (b : Bool) (xs : List ByteArray) : List UInt8 := if b = true then 47 :: joinL xs else if joinL xs = [] then [46] else joinL xs
theorem joinL_snoc (xs : List ByteArray) (x : ByteArray) : joinL (xs ++ [x]) = if xs = [] then x.data.toList else joinL xs ++ (47 :: x.data.toList) := by
  unfold joinL
  rcases xs with _ | ⟨y, r⟩
  · simp [Lib.join_one]
  · rw [if_neg (by simp), List.cons_append, List.map_cons, List.map_cons, List.map_append, Lib.join_cons, Lib.join_cons]
    unfold Lib.joinTail
    simp
theorem take_snoc (xs : List ByteArray) (k : Nat) (h : k < xs.length) : joinL (xs.take (k + 1)) = if k = 0 then xs[k].data.toList else joinL (xs.take k) ++ (47 :: xs[k].data.toList) := by
  rw [List.take_succ_eq_append_getElem h, joinL_snoc]
  by_cases hk : k = 0
  · subst hk; simp
  · rw [if_neg hk, if_neg]
    intro e
    have := congrArg List.length e
    rw [List.length_take, List.length_nil] at this; omega
theorem join_take_le (xs : List ByteArray) (k : Nat) : (joinL (xs.take k)).length ≤ (joinL xs).length := by
  have step : ∀ j, (joinL (xs.take j)).length ≤ (joinL (xs.take (j + 1))).length := by
    intro j
    by_cases h : j < xs.length
    · rw [take_snoc xs j h]
      split
      · rename_i e; subst e; simp [joinL, Lib.join_nil]
      · rw [List.length_append]; omega
    · rw [List.take_of_length_le (by omega), List.take_of_length_le (by omega)]; exact Nat.le_refl _
  have all : ∀ d, (joinL (xs.take k)).length ≤ (joinL (xs.take (k + d))).length := by
    intro d
    induction d with
    | zero => exact Nat.le_refl _
    | succ d ih => exact Nat.le_trans ih (step (k + d))
  have := all xs.length
  rw [show xs.take (k + xs.length) = xs from List.take_of_length_le (by omega)] at this
  exact this
theorem join_any (A : Option Addr) (n c : Nat) (xs : List ByteArray) (w : World) (hx : Rc w A (svs xs)) (e1 : n = xs.length) (hc : xs.length ≤ c) (hn : xs.length ≤ 140737488351232) (hl : (joinL xs).length ≤ 1000000) :
    Calls Tryd.prog 26 #[.slice A n c, .string ⟨#[47]⟩] w fun e w' => e = .returned (.string (mkS (joinL xs))) ∧ Below w.heap.size w w' := by
  subst e1
  rcases xs with _ | ⟨x, r⟩
  · exact (strings_Join_none A c ⟨#[47]⟩ w).mono fun e w' h => by obtain ⟨h1, rfl⟩ := h; exact ⟨h1, Below.refl _ _⟩
  · obtain ⟨b, off, rfl, hb, hc1⟩ := hx.form (by rw [svs_len]; simp)
    exact strings_Join b off c (x :: r) ⟨#[47]⟩ w (fun j y hy => by
      obtain ⟨hj, rfl⟩ := List.getElem?_eq_some_iff.1 hy
      exact hc1 j _ (sv_at hj)) hb (by omega) hc (by show (joinL (x :: r)).length ≤ _; omega)
theorem mkS_size (l : List UInt8) : (mkS l).size = l.length := by simp [mkS, ← ByteArray.size_data]
theorem mkS_toList (l : List UInt8) : (mkS l).toList = l := by rw [str_list]; rfl
theorem mk_app (l m : List UInt8) : mkS l ++ mkS m = mkS (l ++ m) := by
  apply ByteArray.ext
  apply Array.toList_inj.1
  rw [ByteArray.data_append, Array.toList_append]
  rfl
theorem mk_slash (l : List UInt8) : ({ data := #[47] } : ByteArray) ++ mkS l = mkS (47 :: l) := mk_app [47] l
set_option maxHeartbeats 2000000 in
theorem print_calls (b : Bool) (A : Option Addr) (n c : Nat) (xs : List ByteArray) (w : World) (hx : Rc w A (svs xs)) (e1 : n = xs.length) (hc : xs.length ≤ c) (hn : xs.length ≤ 140737488351232) (hl : (joinL xs).length ≤ 1000000) :
    Calls Tryd.prog 16 #[.agg #[.bool b, .slice A n c]] w fun e w' => e = .returned (.string (mkS (printL b xs))) ∧ Below w.heap.size w w' := by
  have HX := Hd.mk hx
  have E1 := Hd.mk e1
  clear hx e1
  have HB : Hd (Below w.heap.size w (w.alloc (.cells #[.bool b, .slice A n c] 25))) := ⟨(Below.refl _ w).alloc (Nat.le_refl _) _⟩
  have B0 := Hd.mk (Blk.new w 25 [.bool b, .slice A n c])
  obtain ⟨J, hJ⟩ : ∃ J, joinL xs = J := ⟨_, rfl⟩
  have HJ := Hd.mk hJ
  cases b
  · by_cases h0 : J = []
    · have HP : Hd (printL false xs = [46]) := ⟨by unfold printL; rw [if_neg (by simp), hJ, if_pos h0]⟩
      have f0 : (mkS J).toList.isEmpty = true := by rw [mkS_toList, h0]; rfl
      clear hJ h0
      go_enter Tryd.func16, Tryd.ntmps16
      go_wp2_with (go_at_call 26; refine (join_any _ _ _ xs _ (HX.out.below HB.out) E1.out hc hn hl).mono ?_; rintro e w2 ⟨rfl, hb2⟩; rw [HJ.out]; have hc0 := (B0.out.below hb2 (by simp)).cell (i := 0) rfl)
      go_ret
      exact ⟨by rw [HP.out]; rfl, below_then HB.out HB.out.size hb2⟩
    · have HP : Hd (printL false xs = J) := ⟨by unfold printL; rw [if_neg (by simp), hJ, if_neg h0]⟩
      have f0 : (mkS J).toList.isEmpty = false := by rw [mkS_toList]; simpa using h0
      clear hJ h0
      go_enter Tryd.func16, Tryd.ntmps16
      go_wp2_with (go_at_call 26; refine (join_any _ _ _ xs _ (HX.out.below HB.out) E1.out hc hn hl).mono ?_; rintro e w2 ⟨rfl, hb2⟩; rw [HJ.out]; have hc0 := (B0.out.below hb2 (by simp)).cell (i := 0) rfl)
      go_ret
      exact ⟨by rw [HP.out]; rfl, below_then HB.out HB.out.size hb2⟩
  · have HP : Hd (printL true xs = 47 :: J) := ⟨by unfold printL; rw [if_pos rfl, hJ]⟩
    have hsz : (mkS J).size ≤ 1000000 := by rw [mkS_size, ← hJ]; exact hl
    have f0 : (({ data := #[47] } : ByteArray) ++ mkS J).toList.isEmpty = false := by rw [mk_slash, mkS_toList]; rfl
    clear hJ
    go_enter Tryd.func16, Tryd.ntmps16
    go_wp2_with (go_at_call 26; refine (join_any _ _ _ xs _ (HX.out.below HB.out) E1.out hc hn hl).mono ?_; rintro e w2 ⟨rfl, hb2⟩; rw [HJ.out]; have hc0 := (B0.out.below hb2 (by simp)).cell (i := 0) rfl)
    go_ret
    exact ⟨by rw [HP.out, ← mk_slash]; rfl, below_then HB.out HB.out.size hb2⟩
set_option maxHeartbeats 4000000 in
theorem rprint_calls (b : Bool) (A : Option Addr) (n c : Nat) (xs : List ByteArray) (w : World) (hx : Rc w A (svs xs)) (e1 : n = xs.length) (hc : xs.length ≤ c) (hn : xs.length ≤ 140737488351232) (hl : (joinL xs).length ≤ 1000000) :
    Calls Tryd.prog 21 #[.agg #[.bool b, .slice A n c]] w fun e w' => e = .returned (.string (mkS (printL b xs))) ∧ Below w.heap.size w w' := by
  subst e1
  have HX := Hd.mk hx
  clear hx
  have HB : Hd (Below w.heap.size w (w.alloc (.cells #[.bool b, .slice A xs.length c] 25))) := ⟨(Below.refl _ w).alloc (Nat.le_refl _) _⟩
  have B0 := Hd.mk (Blk.new w 25 [.bool b, .slice A xs.length c])
  go_enter Tryd.func21, Tryd.ntmps21
  go_wp2_with (fail)
  go_loop [3, 4] (fun s i => ∃ k : Nat, k ≤ xs.length ∧ i = .int .i64 k ∧ s = .string (mkS (joinL (xs.take k)))) (fun _ i => xs.length - (intOf i).toNat)
  case atStart => exact ⟨0, by omega, rfl, rfl⟩
  case round =>
    obtain ⟨k, hk, rfl, rfl⟩ := hrel
    by_cases hlt : k < xs.length
    · obtain ⟨b', off, rfl, hcx⟩ := (HX.out.below HB.out) k _ (sv_at hlt)
      have hj1 := join_take_le xs k
      have hj2 := join_take_le xs (k + 1)
      have HT := Hd.mk (take_snoc xs k hlt)
      have hsz : (mkS (joinL (xs.take k))).size ≤ 1000000 := by rw [mkS_size]; omega
      by_cases hk0 : k = 0
      · subst hk0
        have HT0 := Hd.mk (HT.out.trans (if_pos rfl))
        have e0 : joinL (xs.take 0) = [] := by simp [joinL, Lib.join_nil]
        rw [e0] at hsz ⊢
        have hx0 : xs[0].size ≤ 1000000 := by
          have h := congrArg List.length HT0.out
          have h3 : xs[0].data.toList.length = xs[0].size := by simp
          omega
        rw [Nat.add_zero] at hcx
        clear hj1 hj2 e0
        go_wp2_with (fail)
        go_round
        case rel =>
          refine ⟨1, by omega, by go_num, ?_⟩
          rw [HT0.out]
          show Value.string (mkS [] ++ mkS xs[0].data.toList) = _
          rw [mk_app]; rfl
        case measure => simp [intOf]; omega
      · have HT0 := Hd.mk (HT.out.trans (if_neg hk0))
        have hk1 : 0 < k := by omega
        have hx0 : xs[k].size ≤ 1000000 := by have := congrArg List.length HT0.out; simp at this; omega
        have hs2 : (mkS (joinL (xs.take k)) ++ { data := #[47] }).size ≤ 1000001 := by
          rw [ByteArray.size_append]; have : ({ data := #[47] } : ByteArray).size = 1 := rfl
          omega
        clear hj1 hj2
        go_wp2_with (fail)
        go_round
        case rel =>
          refine ⟨k + 1, by omega, by go_num, ?_⟩
          rw [HT0.out]
          show Value.string (mkS (joinL (xs.take k)) ++ mkS [47] ++ mkS xs[k].data.toList) = _
          rw [mk_app, mk_app, List.append_assoc]; rfl
        case measure => simp [intOf]; omega
    · obtain rfl : k = xs.length := by omega
      rw [List.take_length]
      obtain ⟨J, hJ⟩ : ∃ J, joinL xs = J := ⟨_, rfl⟩
      rw [hJ]
      cases b
      · by_cases h0 : J = []
        · have HP : Hd (printL false xs = [46]) := ⟨by unfold printL; rw [if_neg (by simp), hJ, if_pos h0]⟩
          have f0 : (mkS J).toList.isEmpty = true := by rw [mkS_toList, h0]; rfl
          clear hJ h0
          go_wp2_with (fail)
          go_ret
          exact ⟨by rw [HP.out]; rfl, HB.out⟩
        · have HP : Hd (printL false xs = J) := ⟨by unfold printL; rw [if_neg (by simp), hJ, if_neg h0]⟩
          have f0 : (mkS J).toList.isEmpty = false := by rw [mkS_toList]; simpa using h0
          clear hJ h0
          go_wp2_with (fail)
          go_ret
          exact ⟨by rw [HP.out]; rfl, HB.out⟩
      · have HP : Hd (printL true xs = 47 :: J) := ⟨by unfold printL; rw [if_pos rfl, hJ]⟩
        have hsz : (mkS J).size ≤ 1000000 := by rw [mkS_size, ← hJ]; exact hl
        clear hJ
        go_wp2_with (fail)
        go_ret
        exact ⟨by rw [HP.out, ← mk_slash]; rfl, HB.out⟩
end Go.Proofs.YtncagcbdgimpfaaDoor
