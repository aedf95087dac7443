/- Walks: may a name be? -/
import Derived.Test.YtiloeaenpanjcaaProg
import Derived.Test.YtiloeaenpanjcaaBase8
namespace Go.Proofs.Ytiloeaenpanjcaa
open Go.RowKit Go.Sac
set_option linter.unusedVariables false
set_option linter.unusedSimpArgs false

def oddB (c : UInt8) : Bool := c == 0 || c == 47
/-- may a name be? -/
def namedL (l : List UInt8) : Bool := !(l.any oddB) && (!l.isEmpty && (decide (l.length ≤ 27) && (!(l == [46]) && !(l == [46, 46]))))
theorem odd_take (l : List UInt8) (k : Nat) (h : k < l.length) : (l.take (k + 1)).any oddB = ((l.take k).any oddB || oddB l[k]) := by
  rw [List.take_succ_eq_append_getElem h, List.any_append]; simp
theorem odd_at (l : List UInt8) (k : Nat) (h : k < l.length) (ho : oddB l[k] = true) : l.any oddB = true :=
  List.any_eq_true.2 ⟨_, List.getElem_mem h, ho⟩
theorem toList_at (s : ByteArray) (k : Nat) (h : k < s.size) : s.data.toList[k]'(by simpa using h) = s[k] := rfl
/-- how a byte's tests come out -/
theorem byte_ways (c : UInt8) : (((c.toNat : Int) == 0) = true ∧ oddB c = true) ∨ (((c.toNat : Int) == 0) = false ∧ ((c.toNat : Int) == 47) = true ∧ oddB c = true) ∨ (((c.toNat : Int) == 0) = false ∧ ((c.toNat : Int) == 47) = false ∧ oddB c = false) := by
  by_cases h0 : c = 0
  · subst h0; exact Or.inl ⟨rfl, rfl⟩
  · have e0 : ((c.toNat : Int) == 0) = false := by rw [beq_eq_false_iff_ne]; intro h; exact h0 (UInt8.toNat_inj.1 (by simpa using h))
    by_cases h1 : c = 47
    · subst h1; exact Or.inr (Or.inl ⟨rfl, rfl, rfl⟩)
    · have e1 : ((c.toNat : Int) == 47) = false := by rw [beq_eq_false_iff_ne]; intro h; exact h1 (UInt8.toNat_inj.1 (by show c.toNat = 47; omega))
      exact Or.inr (Or.inr ⟨e0, e1, by simp [oddB, h0, h1]⟩)
theorem named_odd (l : List UInt8) (h : l.any oddB = true) : namedL l = false := by unfold namedL; rw [h]; rfl
theorem str_list (s : ByteArray) : s.toList = s.data.toList := ByteArray.toList_eq ..
/-- how the tests behind the loop come out -/
theorem tail_ways (s : ByteArray) (h : s.data.toList.any oddB = false) :
    (s.data.toList = [] ∧ namedL s.data.toList = false) ∨ (s.data.toList ≠ [] ∧ 27 < s.size ∧ namedL s.data.toList = false) ∨ (s.data.toList ≠ [] ∧ s.size ≤ 27 ∧ s.data.toList = [46] ∧ namedL s.data.toList = false) ∨
    (s.data.toList ≠ [] ∧ s.size ≤ 27 ∧ s.data.toList ≠ [46] ∧ s.data.toList = [46, 46] ∧ namedL s.data.toList = false) ∨ (s.data.toList ≠ [] ∧ s.size ≤ 27 ∧ s.data.toList ≠ [46] ∧ s.data.toList ≠ [46, 46] ∧ namedL s.data.toList = true) := by
  have hl : s.data.toList.length = s.size := by simp
  unfold namedL
  rw [h, hl]
  by_cases h1 : s.data.toList = []
  · exact Or.inl ⟨h1, by simp [h1]⟩
  · by_cases h2 : 27 < s.size
    · exact Or.inr (Or.inl ⟨h1, h2, by simp; omega⟩)
    · by_cases h3 : s.data.toList = [46]
      · exact Or.inr (Or.inr (Or.inl ⟨h1, by omega, h3, by simp [h3]⟩))
      · by_cases h4 : s.data.toList = [46, 46]
        · exact Or.inr (Or.inr (Or.inr (Or.inl ⟨h1, by omega, h3, h4, by simp [h4]⟩)))
        · refine Or.inr (Or.inr (Or.inr (Or.inr ⟨h1, by omega, h3, h4, ?_⟩)))
          have : (s.data.toList == [46]) = false := by simpa using h3
          have : (s.data.toList == [46, 46]) = false := by simpa using h4
          have : s.data.toList.isEmpty = false := by simpa using h1
          simp [*]; omega
theorem any_full (s : ByteArray) (h : (s.data.toList.take s.size).any oddB = false) : s.data.toList.any oddB = false := by
  rwa [List.take_of_length_le (by simp)] at h
set_option maxHeartbeats 1000000 in
theorem rnamed_calls (s : ByteArray) (w : World) (hs : s.size ≤ 140737488351232) :
    Calls Try.prog 21 #[.string s] w fun e w' => e = .returned (.bool (namedL s.data.toList)) ∧ w' = w := by
  go_enter Try.func21, Try.ntmps21
  go_wp2_with (fail)
  go_loop [2, 3] (fun r i => r = .bool false ∧ ∃ k : Nat, k ≤ s.size ∧ i = .int .i64 k ∧ Hd ((s.data.toList.take k).any oddB = false)) (fun _ i => s.size - (intOf i).toNat)
  case atStart => exact ⟨rfl, 0, by omega, rfl, ⟨rfl⟩⟩
  case round =>
    obtain ⟨rfl, k, hk, rfl, HO⟩ := hrel
    by_cases hlt : k < s.size
    · have HA := Hd.mk (odd_at s.data.toList k (by simpa using hlt))
      have HT := Hd.mk (odd_take s.data.toList k (by simpa using hlt))
      rcases byte_ways s[k] with ⟨h0, ho⟩ | ⟨h0, h1, ho⟩ | ⟨h0, h1, ho⟩
      · have HN := Hd.mk (named_odd s.data.toList (HA.out ho))
        clear ho
        go_wp2_with (fail)
        go_ret
        exact ⟨by rw [HN.out]; rfl, rfl⟩
      · have HN := Hd.mk (named_odd s.data.toList (HA.out ho))
        clear ho
        go_wp2_with (fail)
        go_ret
        exact ⟨by rw [HN.out]; rfl, rfl⟩
      · have HZ := Hd.mk ho
        clear ho
        go_wp2_with (fail)
        go_round
        case rel => exact ⟨rfl, k + 1, by omega, by go_num, ⟨by rw [HT.out, HO.out]; exact HZ.out⟩⟩
        case measure => simp [intOf]; omega
    · obtain rfl : k = s.size := by omega
      rcases tail_ways s (any_full s HO.out) with ⟨h1, hn⟩ | ⟨h1, h2, hn⟩ | ⟨h1, h2, h3, hn⟩ | ⟨h1, h2, h3, h4, hn⟩ | ⟨h1, h2, h3, h4, hn⟩
      · have HN := Hd.mk hn
        have f0 : s.size = 0 := by rw [← ByteArray.size_data, ← Array.length_toList, h1]; rfl
        have f1 : decide ((1 : Int) ≤ (s.size : Int)) = false := by simp; omega
        clear hn h1
        go_wp2_with (fail)
        go_ret
        exact ⟨by rw [HN.out]; rfl, rfl⟩
      all_goals
        have HN := Hd.mk hn
        have f0 : 0 < s.size := by rcases Nat.eq_zero_or_pos s.size with h | h; exact absurd (List.eq_nil_of_length_eq_zero (by simpa using h)) h1; exact h
        have f1 : decide ((1 : Int) ≤ (s.size : Int)) = true := by simp; omega
        clear hn h1
      · have f2 : decide ((s.size : Int) ≤ 27) = false := by simp; omega
        go_wp2_with (fail)
        go_ret
        exact ⟨by rw [HN.out]; rfl, rfl⟩
      · have f2 : decide ((s.size : Int) ≤ 27) = true := by simp; omega
        have f3 : (s.toList == [46]) = true := by rw [str_list, h3]; rfl
        clear h3
        go_wp2_with (fail)
        go_ret
        exact ⟨by rw [HN.out]; rfl, rfl⟩
      · have f2 : decide ((s.size : Int) ≤ 27) = true := by simp; omega
        have f3 : (s.toList == [46]) = false := by rw [str_list]; simpa using h3
        have f4 : (s.toList == [46, 46]) = true := by rw [str_list, h4]; rfl
        clear h3 h4
        go_wp2_with (fail)
        go_ret
        exact ⟨by rw [HN.out]; rfl, rfl⟩
      · have f2 : decide ((s.size : Int) ≤ 27) = true := by simp; omega
        have f3 : (s.toList == [46]) = false := by rw [str_list]; simpa using h3
        have f4 : (s.toList == [46, 46]) = false := by rw [str_list]; simpa using h4
        clear h3 h4
        go_wp2_with (fail)
        go_ret
        exact ⟨by rw [HN.out]; rfl, rfl⟩
set_option maxHeartbeats 1000000 in
theorem named_calls (s : ByteArray) (w : World) (hs : s.size ≤ 140737488351232) :
    Calls Try.prog 12 #[.string s] w fun e w' => e = .returned (.bool (namedL s.data.toList)) ∧ Below w.heap.size w w' := by
  go_enter Try.func12, Try.ntmps12
  go_wp2_with (refine wpList_bytes rfl 9 42 5 (.tmp 5) rfl s rfl Try.underlying9 Try.underlying42 Try.underlying5 ?_; intro c W1 hr hb hc hz; have HR := Hd.mk hr; have HB := Hd.mk hb; clear hr hb hz)
  go_loop [2, 4, 8] (fun r _ i => r = .bool false ∧ ∃ k : Nat, k ≤ s.size ∧ i = .int .i64 k ∧ Hd ((s.data.toList.take k).any oddB = false)) (fun _ _ i => s.size - (intOf i).toNat)
  case atStart => exact ⟨rfl, 0, by omega, rfl, ⟨rfl⟩⟩
  case round =>
    obtain ⟨rfl, k, hk, rfl, HO⟩ := hrel
    by_cases hlt : k < s.size
    · have hcell : W1.cell? ⟨w.heap.size, k, none⟩ = some (.int .u8 (s[k].toNat : Int)) := by
        obtain ⟨b, off, e, h⟩ := HR.out k _ (bs_at (by simpa using hlt))
        injection e with e; injection e with e1 e2; subst e1; subst e2
        rw [Nat.zero_add] at h; exact h
      have HA := Hd.mk (odd_at s.data.toList k (by simpa using hlt))
      have HT := Hd.mk (odd_take s.data.toList k (by simpa using hlt))
      rcases byte_ways s[k] with ⟨h0, ho⟩ | ⟨h0, h1, ho⟩ | ⟨h0, h1, ho⟩
      · have HN := Hd.mk (named_odd s.data.toList (HA.out ho))
        clear ho
        go_wp2_with (fail)
        go_ret
        exact ⟨by rw [HN.out]; rfl, HB.out⟩
      · have HN := Hd.mk (named_odd s.data.toList (HA.out ho))
        clear ho
        go_wp2_with (fail)
        go_ret
        exact ⟨by rw [HN.out]; rfl, HB.out⟩
      · have HZ := Hd.mk ho
        clear ho
        go_wp2_with (fail)
        go_round
        case rel => exact ⟨rfl, k + 1, by omega, by go_num, ⟨by rw [HT.out, HO.out]; exact HZ.out⟩⟩
        case measure => simp [intOf]; omega
    · obtain rfl : k = s.size := by omega
      rcases tail_ways s (any_full s HO.out) with ⟨h1, hn⟩ | ⟨h1, h2, hn⟩ | ⟨h1, h2, h3, hn⟩ | ⟨h1, h2, h3, h4, hn⟩ | ⟨h1, h2, h3, h4, hn⟩
      · have HN := Hd.mk hn
        have f0 : s.toList.isEmpty = true := by rw [str_list, h1]; rfl
        clear hn h1
        go_wp2_with (fail)
        go_ret
        exact ⟨by rw [HN.out]; rfl, HB.out⟩
      all_goals
        have HN := Hd.mk hn
        have f0 : s.toList.isEmpty = false := by rw [str_list]; simpa using h1
        clear hn h1
      · have f2 : decide ((s.size : Int) ≤ 27) = false := by simp; omega
        go_wp2_with (fail)
        go_ret
        exact ⟨by rw [HN.out]; rfl, HB.out⟩
      · have f2 : decide ((s.size : Int) ≤ 27) = true := by simp; omega
        have f3 : (s.toList == [46]) = true := by rw [str_list, h3]; rfl
        clear h3
        go_wp2_with (fail)
        go_ret
        exact ⟨by rw [HN.out]; rfl, HB.out⟩
      · have f2 : decide ((s.size : Int) ≤ 27) = true := by simp; omega
        have f3 : (s.toList == [46]) = false := by rw [str_list]; simpa using h3
        have f4 : (s.toList == [46, 46]) = true := by rw [str_list, h4]; rfl
        clear h3 h4
        go_wp2_with (fail)
        go_ret
        exact ⟨by rw [HN.out]; rfl, HB.out⟩
      · have f2 : decide ((s.size : Int) ≤ 27) = true := by simp; omega
        have f3 : (s.toList == [46]) = false := by rw [str_list]; simpa using h3
        have f4 : (s.toList == [46, 46]) = false := by rw [str_list]; simpa using h4
        clear h3 h4
        go_wp2_with (fail)
        go_ret
        exact ⟨by rw [HN.out]; rfl, HB.out⟩
end Go.Proofs.Ytiloeaenpanjcaa
