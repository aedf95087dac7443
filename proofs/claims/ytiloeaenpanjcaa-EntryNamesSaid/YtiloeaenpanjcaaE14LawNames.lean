/- Walks: the law EntryNames. -/
import Derived.Test.YtiloeaenpanjcaaE14LawSteps
namespace Go.Proofs.Ytiloeaenpanjcaa
open Go.RowKit Go.Sac
set_option linter.unusedVariables false
set_option linter.unusedSimpArgs false

theorem ins_odd (s : ByteArray) (k : Nat) (c : UInt8) (h : oddB c = true) : namedL (s.extract 0 k ++ ⟨#[c]⟩ ++ s.extract k s.size).data.toList = false := by
  refine named_odd _ ?_
  simp [ByteArray.data_append, h]
theorem ins_size (s : ByteArray) (k : Nat) (c : UInt8) (h : s.size ≤ 60) : (s.extract 0 k ++ ⟨#[c]⟩ ++ s.extract k s.size).size ≤ 140737488351232 := by
  have e : (⟨#[c]⟩ : ByteArray).size = 1 := rfl
  simp only [ByteArray.size_append, ByteArray.size_extract, e]
  omega
/-- what makes a name odd but for its bytes -/
def odd0 (s : ByteArray) : Bool := s.data.toList.isEmpty || (decide (27 < s.size) || ((s.data.toList == [46]) || (s.data.toList == [46, 46])))
theorem odd_named (s : ByteArray) : namedL s.data.toList = !(odd0 s || s.data.toList.any oddB) := by
  unfold namedL odd0
  have hl : s.data.toList.length = s.size := by simp
  rw [hl]
  cases s.data.toList.any oddB <;> cases s.data.toList.isEmpty <;> cases (s.data.toList == [46]) <;> cases (s.data.toList == [46, 46]) <;> by_cases h : 27 < s.size <;> simp [h] <;> omega
theorem odd0_ways (s : ByteArray) : (decide ((s.size : Int) < 1) = true ∧ odd0 s = true) ∨ (decide ((s.size : Int) < 1) = false ∧ decide ((s.size : Int) > 27) = true ∧ odd0 s = true) ∨
    (decide ((s.size : Int) < 1) = false ∧ decide ((s.size : Int) > 27) = false ∧ (s.toList == [46]) = true ∧ odd0 s = true) ∨ (decide ((s.size : Int) < 1) = false ∧ decide ((s.size : Int) > 27) = false ∧ (s.toList == [46]) = false ∧ (s.toList == [46, 46]) = true ∧ odd0 s = true) ∨
    (decide ((s.size : Int) < 1) = false ∧ decide ((s.size : Int) > 27) = false ∧ (s.toList == [46]) = false ∧ (s.toList == [46, 46]) = false ∧ odd0 s = false) := by
  unfold odd0
  rw [str_list]
  have hl : s.data.toList.length = s.size := by simp
  have he : s.data.toList.isEmpty = decide ((s.size : Int) < 1) := by
    rw [← hl]
    cases s.data.toList with
    | nil => rfl
    | cons a r => simp; omega
  have h2 : decide (27 < s.size) = decide ((s.size : Int) > 27) := by
    rw [Bool.eq_iff_iff]; simp; omega
  rw [he, h2]
  cases decide ((s.size : Int) < 1) <;> cases decide ((s.size : Int) > 27) <;> cases (s.data.toList == [46]) <;> cases (s.data.toList == [46, 46]) <;> simp
set_option maxHeartbeats 8000000 in
set_option maxRecDepth 100000 in
theorem law_names (s : ByteArray) (a : Int) (w : World) (hs : s.size ≤ 140737488351232) (ha : 0 ≤ a ∧ a ≤ 255) :
    Calls Try.prog 3 #[.string s, .int .u8 a] w (RetT w) := by
  by_cases hbig : s.size > 60
  · have d1 : decide ((s.size : Int) > 60) = true := by simp; omega
    clear hbig
    go_enter Try.func3, Try.ntmps3
    go_wp2_with (go_at_call 11; refine (known_calls _).mono ?_; rintro e w12 ⟨rfl, hb⟩; have HB := Hd.mk hb; clear hb)
    go_ret
    exact ⟨rfl, HB.out⟩
  · have d1 : decide ((s.size : Int) > 60) = false := by simp; omega
    obtain ⟨k, hk⟩ : ∃ k : Nat, a.tmod ((s.size : Int) + 1) = (k : Int) := ⟨(a.tmod ((s.size : Int) + 1)).toNat, by
      have := Int.tmod_nonneg ((s.size : Int) + 1) ha.1
      omega⟩
    have hk2 : k ≤ s.size := by
      have := Int.tmod_lt_of_pos a (show (0 : Int) < (s.size : Int) + 1 by omega)
      omega
    have hke : a % ((s.size : Int) + 1) = (k : Int) := by rw [← hk, Int.tmod_eq_emod_of_nonneg ha.1]
    obtain ⟨ha0, ha1⟩ := ha
    have wa : IntKind.i64.wrap a = a := by rw [IntKind.wrap_i64]; omega
    have ws : IntKind.i64.wrap ((s.size : Int) + 1) = (s.size : Int) + 1 := by rw [IntKind.wrap_i64]; omega
    have wk : IntKind.i64.wrap (k : Int) = (k : Int) := by rw [IntKind.wrap_i64]; omega
    have hnz : ¬ ((s.size : Int) + 1 = 0) := by omega
    go_enter Try.func3, Try.ntmps3
    go_wp2
    go_quiet (fail)
    have HB : Hd (Below w.heap.size w (w.drewN nq)) := ⟨below_drewN (Below.refl _ _) _⟩
    generalize w.drewN nq = wq1 at *
    go_wp2
    go_quiet (fail)
    have hs60 : s.size ≤ 60 := by omega
    have HB : Hd (Below w.heap.size w (wq1.drewN nq)) := ⟨below_drewN HB.out _⟩
    have HT1 := Hd.mk (ins_odd s k 47 rfl)
    have HT2 := Hd.mk (ins_odd s k 0 rfl)
    have HS1 := Hd.mk (ins_size s k 47 hs60)
    have HS2 := Hd.mk (ins_size s k 0 hs60)
    generalize wq1.drewN nq = wq at *
    obtain ⟨tt, htt⟩ : ∃ z, s.extract 0 k ++ (⟨#[47]⟩ : ByteArray) ++ s.extract k s.size = z := ⟨_, rfl⟩
    obtain ⟨uu, huu⟩ : ∃ z, s.extract 0 k ++ (⟨#[0]⟩ : ByteArray) ++ s.extract k s.size = z := ⟨_, rfl⟩
    rw [htt] at HT1 HS1
    rw [huu] at HT2 HS2
    rw [htt, huu]
    have HSZ := Hd.mk hs
    clear htt huu ha0 ha1 wa ws wk hnz hke hk hk2
    have T1 : Hd True := ⟨trivial⟩
    have T2 : Hd True := ⟨trivial⟩
    have T3 : Hd True := ⟨trivial⟩
    have T4 : Hd True := ⟨trivial⟩
    have T5 : Hd True := ⟨trivial⟩
    have HD1 : Hd (namedL (⟨#[]⟩ : ByteArray).data.toList = false) := ⟨by decide +kernel⟩
    have HD2 : Hd (namedL (⟨#[46]⟩ : ByteArray).data.toList = false) := ⟨by decide +kernel⟩
    have HD3 : Hd (namedL (⟨#[46, 46]⟩ : ByteArray).data.toList = false) := ⟨by decide +kernel⟩
    have HON := Hd.mk (odd_named s)
    rcases odd0_ways s with ⟨f1, ho⟩ | ⟨f1, f2, ho⟩ | ⟨f1, f2, f3, ho⟩ | ⟨f1, f2, f3, f4, ho⟩ | ⟨f1, f2, f3, f4, ho⟩
    all_goals
      have HOD := Hd.mk ho
      clear ho
      go_wp2_with (first
        | (clear T1; go_at_call 12; refine (named_calls tt _ HS1.out).mono ?_; rintro e w1 ⟨rfl, hb⟩; rw [HT1.out]; have HB := Hd.mk (below_then HB.out HB.out.size hb); clear hb)
        | (clear T2; go_at_call 12; refine (named_calls uu _ HS2.out).mono ?_; rintro e w2 ⟨rfl, hb⟩; rw [HT2.out]; have HB := Hd.mk (below_then HB.out HB.out.size hb); clear hb)
        | (clear T3; go_at_call 12; refine (named_calls ⟨#[]⟩ _ (by decide)).mono ?_; rintro e w3 ⟨rfl, hb⟩; rw [HD1.out]; have HB := Hd.mk (below_then HB.out HB.out.size hb); clear hb)
        | (clear T4; go_at_call 12; refine (named_calls ⟨#[46]⟩ _ (by decide)).mono ?_; rintro e w4 ⟨rfl, hb⟩; rw [HD2.out]; have HB := Hd.mk (below_then HB.out HB.out.size hb); clear hb)
        | (clear T5; go_at_call 12; refine (named_calls ⟨#[46, 46]⟩ _ (by decide)).mono ?_; rintro e w5 ⟨rfl, hb⟩; rw [HD3.out]; have HB := Hd.mk (below_then HB.out HB.out.size hb); clear hb))
      go_loopw [8, 9] (fun ov iv wr => ∃ (i : Nat) (ob : Bool), iv = .int .i64 (i : Int) ∧ i ≤ s.size ∧ ov = .bool ob ∧ Hd (ob = (odd0 s || (s.data.toList.take i).any oddB)) ∧ Hd (Below w.heap.size w wr)) (fun _ iv _ => s.size - (intOf iv).toNat)
      case atStart => exact ⟨0, _, rfl, Nat.zero_le _, rfl, ⟨by rw [HOD.out]; rfl⟩, HB⟩
      case round =>
        clear HB
        obtain ⟨i, ob, rfl, hi, rfl, HO, HB⟩ := hrel
        by_cases hlt : i < s.size
        · have hil2 : (i : Int) < (s.size : Int) := by omega
          have HT := Hd.mk (odd_take s.data.toList i (by simpa using hlt))
          cases ob
          · rcases byte_ways s[i] with ⟨h0, hod⟩ | ⟨h0, h1, hod⟩ | ⟨h0, h1, hod⟩
            all_goals
              have HZ := Hd.mk hod
              clear hod
              go_wp2_with (fail)
              go_roundw
              case rel =>
                refine ⟨i + 1, _, by go_num, by omega, rfl, ⟨?_⟩, HB⟩
                have h5 := HO.out
                have h6 := HT.out
                have h7 : s.data.toList[i]'(by simpa using hlt) = s[i] := rfl
                rw [h7, HZ.out] at h6
                rw [h6]
                rw [HOD.out] at h5 ⊢
                revert h5
                cases (s.data.toList.take i).any oddB <;> simp
              case measure => simp [intOf]; omega
          · go_wp2_with (fail)
            go_roundw
            case rel =>
              refine ⟨i + 1, _, by go_num, by omega, rfl, ⟨?_⟩, HB⟩
              have h5 := HO.out
              have h6 := HT.out
              rw [h6]
              rw [HOD.out] at h5 ⊢
              revert h5
              cases (s.data.toList.take i).any oddB <;> simp
            case measure => simp [intOf]; omega
        · obtain rfl : i = s.size := by omega
          have HF : Hd (namedL s.data.toList = !ob) := ⟨by
            have h5 := HO.out
            rw [List.take_of_length_le (by simp)] at h5
            rw [HON.out, h5]⟩
          cases ob
          all_goals
            go_wp2_with (first
              | (go_at_call 12; refine (named_calls s _ HSZ.out).mono ?_; rintro e w6 ⟨rfl, hb⟩; rw [HF.out]; have HB := Hd.mk (below_then HB.out HB.out.size hb); clear hb)
              | (go_at_call 11; refine (known_calls _).mono ?_; rintro e w7 ⟨rfl, hb⟩; have HB := Hd.mk (below_then HB.out HB.out.size hb); clear hb))
            go_ret
            exact ⟨rfl, HB.out⟩
end Go.Proofs.Ytiloeaenpanjcaa
