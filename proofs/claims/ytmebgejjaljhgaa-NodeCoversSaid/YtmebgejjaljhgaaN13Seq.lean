/- Walks: the iterator over the spans of bytes. -/
import Derived.Test.YtmebgejjaljhgaaBaseR2
import Derived.Test.YtmebgejjaljhgaaN13Same
namespace Go.Proofs.Ytmebgejjaljhgaa
open Go.RowKit Go.Sac
set_option linter.unusedVariables false
set_option linter.unusedSimpArgs false
attribute [local go_sem] Oper.semAt_some

theorem mkseq_calls (a t : Int) (w : World) :
    Calls Try.prog 32 #[.int .i64 a, .int .i64 t] w fun e w' => e = .returned (.func (.func 39) #[] #[.pointer (some ⟨w.heap.size, 0, none⟩), .pointer (some ⟨w.heap.size + 1, 0, none⟩)]) ∧
      w' = ((w.alloc (.cells #[.int .i64 a] 3)).alloc (.cells #[.int .i64 t] 3)) := by
  go_enter Try.func32, Try.ntmps32
  go_wp2
  go_ret
  exact ⟨rfl, rfl⟩
/-- where the iterator stands when so many have been handed on -/
def atJ (a t j : Nat) : Nat := if j = 0 then a else min t (256 * (a / 256 + j))
def curAt (n : Nat) (w : World) : Nat := match w.cell? ⟨n, 0, none⟩ with | some (.int _ c) => c.toNat | _ => 0
theorem curAt_eq {n : Nat} {w : World} {t : TypeId} {c : Nat} (h : Boxed w n t (.int .i64 (c : Int))) : curAt n w = c := by unfold curAt; rw [h.cell]; simp
def spe (s : Spn) : Value := .agg #[.int .i64 (s.1 : Int), .int .i64 (s.2.1 : Int), .int .i64 (s.2.2 : Int)]
theorem grown_set1 (W : World) (g : Nat) (v : Value) : W.grownBy (W.setCell ⟨g, 0, none⟩ v) (some g) :=
  ⟨rfl, rfl, rfl, by simp, fun k _ hk => Below.heap_setCell W ⟨g, 0, none⟩ v k (fun e => hk (by rw [e]))⟩
set_option maxRecDepth 100000 in
set_option maxHeartbeats 4000000 in
theorem span1_in (l n₀ n₁ : Nat) (a t : Nat) (hat : a < t) (ht : t ≤ 40000) (J Jx : List Spn → World → Prop) (hJ0 : ∀ p, StabR n₁ (n₁ + 2) (J p)) (hJx0 : ∀ p, StabR n₁ (n₁ + 2) (Jx p)) (hn0 : n₀ ≤ n₁)
    (hY : ∀ pre x W, J pre W → pre.length < nbS a t → YieldAt Fence.wide (3 - 1) Try.prog l #[spe x] W fun e W' =>
      (e = .returned (.bool true) ∧ J (pre ++ [x]) W' ∧ KeepR n₀ n₁ (n₁ + 2) W W') ∨ (e = .returned (.bool false) ∧ Jx (pre ++ [x]) W'))
    (W : World) (hB0 : Boxed W n₁ 3 (.int .i64 (a : Int))) (hB1 : Boxed W (n₁ + 1) 3 (.int .i64 (t : Int))) (h0 : J [] W) :
    CallsIn Fence.wide 3 Try.prog 39 #[.func (.yield l) #[] #[], .pointer (some ⟨n₁, 0, none⟩), .pointer (some ⟨n₁ + 1, 0, none⟩)] W fun e W' => (∃ v, e = .returned v) ∧
      ((∃ ys, ys = spL a t ∧ J ys W') ∨ (∃ pre : List Spn, True ∧ Jx pre W')) := by
  have hJ := Hd.mk hJ0
  have hJx := Hd.mk hJx0
  have HN0 := Hd.mk hn0
  clear hJ0 hJx0 hn0
  refine callsIn_of_wp Try.func39 rfl trivial ?_ rfl
  simp only [Try.ntmps39, List.size_toArray, List.length_cons, List.length_nil, Nat.reduceAdd, Nat.reduceSub, Array.replicate_succ, Array.replicate_zero, List.push_toArray, List.append_toArray, List.nil_append, List.cons_append]
  gi_wp2
  gi_loopw [4] (fun _ wr => ∃ (j : Nat), j ≤ nbS a t ∧ Boxed wr n₁ 3 (.int .i64 (atJ a t j : Int)) ∧ Boxed wr (n₁ + 1) 3 (.int .i64 (t : Int)) ∧ J (spT a t j) wr) (fun _ wr => t - curAt n₁ wr)
  case atStart => exact ⟨0, Nat.zero_le _, hB0, hB1, h0⟩
  case round =>
    obtain ⟨j, hj, b0, b1, hjj⟩ := hrel
    by_cases hlt : j < nbS a t
    · obtain ⟨K, hK⟩ : ∃ K, a / 256 + j = K := ⟨_, rfl⟩
      obtain ⟨P, hP⟩ : ∃ P, atJ a t j = P := ⟨_, rfl⟩
      have hnb : 256 * K < t := by unfold nbS at hlt; omega
      have hPK : P / 256 = K ∧ P < t ∧ P = max a (256 * K) := by
        unfold atJ at hP
        split at hP
        · omega
        · omega
      have hPe : atJ a t (j + 1) = min t ((K + 1) * 256) := by unfold atJ; rw [if_neg (by omega)]; omega
      have hst := Hd.mk (spT_step a t j)
      rw [hK] at hst
      rw [hP] at b0
      have hq : (P : Int).tdiv 256 = (K : Int) := by rw [Int.tdiv_eq_ediv_of_nonneg (by omega)]; omega
      have hP4 : P ≤ 40000 := by omega
      have hPt : P < t := hPK.2.1
      have hK4 : K ≤ 200 := by omega
      obtain ⟨fn, tmps, assign, body, hy, hR⟩ := hY _ (spanAt a t K) wr hjj (by rw [spT_len]; exact hlt)
      have hx1 : (((spanAt a t K).2.1 : Nat) : Int) = (P : Int) - (K : Int) * 256 := by show ((max a (256 * K) - 256 * K : Nat) : Int) = _; omega
      have hx2 : (((spanAt a t K).2.2 : Nat) : Int) = min (t : Int) (((K : Int) + 1) * 256) - (K : Int) * 256 := by show ((min t (256 * K + 256) - 256 * K : Nat) : Int) = _; omega
      have hxe : spe (spanAt a t K) = .agg #[.int .i64 (K : Int), .int .i64 ((P : Int) - (K : Int) * 256), .int .i64 (min (t : Int) (((K : Int) + 1) * 256) - (K : Int) * 256)] := by
        unfold spe
        rw [hx1, hx2]
        rfl
      rw [hxe] at hy
      have c0 := b0.cell
      have c1 := b1.cell
      have HE : Hd (min (t : Int) (((K : Int) + 1) * 256) = (atJ a t (j + 1) : Nat)) := ⟨by rw [hPe]; omega⟩
      have HPP : Hd (P < atJ a t (j + 1) ∧ P < t) := ⟨by rw [hPe]; omega⟩
      have HLT := Hd.mk hlt
      have HKK : Hd (256 * K < t) := ⟨hnb⟩
      have HAT : Hd (t < 256 * (K + 1) ∨ atJ a t (j + 1) = 256 * (K + 1)) := ⟨by rw [hPe]; omega⟩
      clear hK hP hnb hPK hPe hx1 hx2 hxe hlt
      gi_wp2
      refine hR.mono ?_
      rintro e W3 (⟨rfl, hJ3, hk3⟩ | ⟨rfl, hJx3⟩)
      · have d0 := hk3.boxed b0 (by omega) (by omega)
        have d1 := hk3.boxed b1 (by omega) (by omega)
        have f0 := d0.frozen
        have c0 := d0.cell
        have c1 := d1.cell
        rw [HE.out]
        gi_wp2
        have e0 : Boxed (W3.setCell ⟨n₁, 0, none⟩ (.int .i64 (atJ a t (j + 1) : Nat))) n₁ 3 (.int .i64 (atJ a t (j + 1) : Nat)) := (show Blk W3 n₁ 3 [.int .i64 (P : Int)] from d0).set 0 _
        go_roundw
        case rel =>
          refine ⟨j + 1, HLT.out, e0, (show Blk W3 (n₁ + 1) 3 [_] from d1).far (show n₁ + 1 ≠ n₁ by omega) _, ?_⟩
          rw [hst.out]
          exact hJ.out _ _ _ _ hJ3 (grown_set1 W3 n₁ _) (fun r e => by injection e with e; omega)
        case measure =>
          rw [curAt_eq e0, curAt_eq b0]
          have := HPP.out
          omega
      · gi_wp2
        refine bodyPost_ret (results_none rfl _ _ _) rfl ?_
        exact ⟨⟨_, rfl⟩, .inr ⟨_, trivial, hJx3⟩⟩
    · obtain rfl : j = nbS a t := by omega
      have hge : ¬ atJ a t (nbS a t) < t := by
        unfold atJ nbS
        split
        · omega
        · omega
      obtain ⟨P, hP⟩ : ∃ P, atJ a t (nbS a t) = P := ⟨_, rfl⟩
      rw [hP] at b0 hge
      have c0 := b0.cell
      have c1 := b1.cell
      have hPL : Hd (spT a t (nbS a t) = spL a t) := ⟨rfl⟩
      clear hP hlt
      gi_wp2
      go_end0
      exact ⟨⟨_, rfl⟩, .inl ⟨_, rfl, by rw [← hPL.out]; exact hjj⟩⟩
end Go.Proofs.Ytmebgejjaljhgaa
