/- Walks: spans of bytes, by the reference; whether two rows of spans are the same. -/
import Derived.Test.YtmebgejjaljhgaaN13Blocks
namespace Go.Proofs.Ytmebgejjaljhgaa
open Go.RowKit Go.Sac
set_option linter.unusedVariables false
set_option linter.unusedSimpArgs false

abbrev Spn := Nat × Nat × Nat
def spanAt (a t k : Nat) : Spn := (k, max a (256 * k) - 256 * k, min t (256 * k + 256) - 256 * k)
def nbS (a t : Nat) : Nat := (t + 255) / 256 - a / 256
def spT (a t j : Nat) : List Spn := (List.range j).map fun i => spanAt a t (a / 256 + i)
def spL (a t : Nat) : List Spn := spT a t (nbS a t)
def spansOf (a n : Int) : List Spn := if a < 0 ∨ n < 1 ∨ a > 17920 ∨ n > 17920 then [] else spL a.toNat (a + n).toNat
def spv (s : Spn) : List Value := [.int .i64 (s.1 : Int), .int .i64 (s.2.1 : Int), .int .i64 (s.2.2 : Int)]
def spc (l : List Spn) : List Value := (l.map spv).flatten
theorem spT_len (a t j : Nat) : (spT a t j).length = j := by simp [spT]
theorem spT_step (a t j : Nat) : spT a t (j + 1) = spT a t j ++ [spanAt a t (a / 256 + j)] := by unfold spT; rw [List.range_succ, List.map_append]; rfl
theorem spc_len (l : List Spn) : (spc l).length = l.length * 3 := by
  unfold spc
  induction l with
  | nil => rfl
  | cons x r ih => rw [List.map_cons, List.flatten_cons, List.length_append, ih, List.length_cons]; show 3 + _ = _; omega
theorem spc_app (l m : List Spn) : spc (l ++ m) = spc l ++ spc m := by unfold spc; rw [List.map_append, List.flatten_append]
theorem spc_single (s : Spn) : spc [s] = spv s := by simp [spc]
theorem spc_one (l : List Spn) : ∀ u ∈ spc l, u.oneCell' = true := by
  intro u hu
  unfold spc at hu
  obtain ⟨x, hx, hu⟩ := List.mem_flatten.1 hu
  obtain ⟨s, _, rfl⟩ := List.mem_map.1 hx
  simp [spv] at hu
  rcases hu with rfl | rfl | rfl <;> rfl
theorem info_span : (Try.prog.info? 40).map (fun i => (i.zero, i.size, i.bytes)) = some (some (.agg #[.int .i64 0, .int .i64 0, .int .i64 0]), 3, 24) := by kernel_rfl
/-- spans -/
def RetS (l : List Spn) (w : World) (e : Ending) (w' : World) : Prop :=
  ∃ v, e = .returned v ∧ w'.ownsRow w.heap.size 40 3 v l.length (spc l) ∧ Below w.heap.size w w'
theorem spans_no {a n : Int} (h : a < 0 ∨ n < 1 ∨ a > 17920 ∨ n > 17920) : spansOf a n = [] := if_pos h
theorem spans_yes {a n : Nat} (h1 : ¬ n < 1) (h2 : a ≤ 17920) (h3 : n ≤ 17920) : spansOf a n = spL a (a + n) := by
  unfold spansOf
  rw [if_neg (by omega)]
  rfl
theorem span_a {x K : Nat} : (max (x : Int) (256 * (K : Int)) - 256 * (K : Int)) = ((max x (256 * K) - 256 * K : Nat) : Int) := by omega
theorem span_b (x m K : Nat) (h : 256 * (K : Int) < (x : Int) + m) : (min ((x : Int) + m) (256 * (K : Int) + 256) - 256 * (K : Int)) = ((min (x + m) (256 * K + 256) - 256 * K : Nat) : Int) := by omega
set_option maxHeartbeats 4000000 in
theorem rspans_calls (a n : Int) (w : World) : Calls Try.prog 17 #[.int .i64 a, .int .i64 n] w (RetS (spansOf a n) w) := by
  by_cases h0 : a < 0
  · have c0 : decide (a < 0) = true := by simpa using h0
    have HN := Hd.mk (spans_no (a := a) (n := n) (.inl h0))
    clear h0
    go_enter Try.func17, Try.ntmps17
    go_wp2
    go_ret
    rw [HN.out]
    exact ⟨_, rfl, World.ownsRow_nil _ _ _ _, Below.refl _ _⟩
  have c0 : decide (a < 0) = false := by simpa using h0
  by_cases h1 : n < 1
  · have c1 : decide (n < 1) = true := by simpa using h1
    have HN := Hd.mk (spans_no (a := a) (n := n) (.inr (.inl h1)))
    clear h0 h1
    go_enter Try.func17, Try.ntmps17
    go_wp2
    go_ret
    rw [HN.out]
    exact ⟨_, rfl, World.ownsRow_nil _ _ _ _, Below.refl _ _⟩
  have c1 : decide (n < 1) = false := by simpa using h1
  by_cases h2 : a > 17920
  · have c2 : decide (a > 17920) = true := by simpa using h2
    have HN := Hd.mk (spans_no (a := a) (n := n) (.inr (.inr (.inl h2))))
    clear h0 h1 h2
    go_enter Try.func17, Try.ntmps17
    go_wp2
    go_ret
    rw [HN.out]
    exact ⟨_, rfl, World.ownsRow_nil _ _ _ _, Below.refl _ _⟩
  have c2 : decide (a > 17920) = false := by simpa using h2
  by_cases h3 : n > 17920
  · have c3 : decide (n > 17920) = true := by simpa using h3
    have HN := Hd.mk (spans_no (a := a) (n := n) (.inr (.inr (.inr h3))))
    clear h0 h1 h2 h3
    go_enter Try.func17, Try.ntmps17
    go_wp2
    go_ret
    rw [HN.out]
    exact ⟨_, rfl, World.ownsRow_nil _ _ _ _, Below.refl _ _⟩
  have c3 : decide (n > 17920) = false := by simpa using h3
  obtain ⟨x, rfl⟩ := Int.eq_ofNat_of_zero_le (show 0 ≤ a by omega)
  obtain ⟨m, rfl⟩ := Int.eq_ofNat_of_zero_le (show 0 ≤ n by omega)
  have hx : x ≤ 17920 := by omega
  have hm : m ≤ 17920 := by omega
  have hm0 : ¬ m < 1 := by omega
  have HY := Hd.mk (spans_yes hm0 hx hm)
  rw [HY.out]
  have hq : (x : Int).tdiv 256 = ((x / 256 : Nat) : Int) := by rw [Int.tdiv_eq_ediv_of_nonneg (by omega)]; omega
  clear h0 h1 h2 h3
  go_enter Try.func17, Try.ntmps17
  go_wp2
  go_loopw [5, 6] (fun v i wr => ∃ j K : Nat, Hd (K = x / 256 + j) ∧ j ≤ nbS x (x + m) ∧ K ≤ 200 ∧ i = .int .i64 (K : Int) ∧ Hd (wr.ownsRow w.heap.size 40 3 v j (spc (spT x (x + m) j))) ∧ Hd (Below w.heap.size w wr)) (fun _ i _ => 201 - (intOf i).toNat)
  case atStart => exact ⟨0, x / 256, ⟨rfl⟩, Nat.zero_le _, by omega, by first | rfl | (congr 1; omega), ⟨World.ownsRow_nil _ _ _ _⟩, ⟨Below.refl _ _⟩⟩
  case round =>
    obtain ⟨j, K, HK, hj, hK, rfl, HO, HB⟩ := hrel
    obtain ⟨A1, c3', rfl, _, _, _⟩ := own_rc HO.out
    have hnb : (256 * (K : Int) < (x : Int) + m) ↔ j < nbS x (x + m) := by have := HK.out; unfold nbS; omega
    by_cases hlt : j < nbS x (x + m)
    · have d1 : decide (256 * (K : Int) < (x : Int) + m) = true := decide_eq_true (hnb.2 hlt)
      have hst := Hd.mk (spT_step x (x + m) j)
      have HLT : Hd (j + 1 ≤ nbS x (x + m)) := ⟨hlt⟩
      have hj200 : j ≤ 200 := by have := HK.out; omega
      have HKL : Hd (256 * (K : Int) < (x : Int) + m) := ⟨hnb.2 hlt⟩
      clear hnb hlt hq
      go_wp2_with (at_builtin; refine app_rc w.heap.size 34 40 (.agg #[.int .i64 0, .int .i64 0, .int .i64 0]) 3 24 (.tmp 31) (.tmp 51) rfl rfl Try.underlying34 info_span rfl (by decide) (by decide) (.slice A1 j c3') j (spc (spT x (x + m) j)) _ (some ⟨_, 0, none⟩) 1 1 rfl rfl (own_alloc HO.out _) (Blk.new _ _ _).rc rfl ?h1 (Nat.le_trans HB.out.size (by simp)) (by omega) (j + 1) (spc (spT x (x + m) (j + 1))) rfl ?ec ?_; (case h1 => simp [Value.oneCell']); (case ec => (rw [hst.out, spc_app, spc_single]; congr 1; unfold spv spanAt; simp only [← HK.out]; rw [span_a, span_b x m K HKL.out])); intro v3 w3 ho3 hg hat; have HO3 := Hd.mk ho3; have HG3 := Hd.mk hg; clear ho3 hg hat)
      go_roundw
      case rel =>
        exact ⟨j + 1, K + 1, ⟨by have := HK.out; omega⟩, HLT.out, by have := HKL.out; omega, by go_num, HO3, ⟨below_lift (HB.out.alloc HB.out.size _) (Nat.le_trans HB.out.size (by simp)) HG3.out (fun b hb => (own_lt HO.out b hb).1)⟩⟩
      case measure => simp [intOf]; omega
    · obtain rfl : j = nbS x (x + m) := by omega
      have d1 : decide (256 * (K : Int) < (x : Int) + m) = false := decide_eq_false (fun h => hlt (hnb.1 h))
      clear hnb hlt hq
      go_wp2
      go_ret
      exact ⟨_, rfl, by rw [show (spL x (x + m)).length = nbS x (x + m) from spT_len _ _ _]; exact HO.out, HB.out⟩
end Go.Proofs.Ytmebgejjaljhgaa
