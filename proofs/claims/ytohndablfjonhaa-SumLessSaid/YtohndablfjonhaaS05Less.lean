/- Walks: which of two digests is less. -/
import Derived.Test.YtohndablfjonhaaS05Words
namespace Go.Proofs.Ytohndablfjonhaa
open Go.RowKit Go.Sac
set_option linter.unusedVariables false
set_option linter.unusedSimpArgs false

/-- the first byte that differs tells -/
def lessT : List UInt8 → List UInt8 → Bool
  | [], _ => false
  | _, [] => false
  | x :: l, y :: m => if x = y then lessT l m else decide (x.toNat < y.toNat)
theorem lessT_diff : ∀ (l m : List UInt8) (k : Nat) (h1 : k < l.length) (h2 : k < m.length), l.take k = m.take k → l[k] ≠ m[k] → lessT l m = decide (l[k].toNat < m[k].toNat)
  | x :: l, y :: m, 0, _, _, _, hn => by simp at hn; simp [lessT, hn]
  | x :: l, y :: m, k + 1, h1, h2, ht, hn => by
    simp only [List.take_succ_cons, List.cons.injEq] at ht
    rw [lessT, if_pos ht.1]
    simpa using lessT_diff l m k (by simpa using h1) (by simpa using h2) ht.2 (by simpa using hn)
theorem lessT_same : ∀ (l : List UInt8), lessT l l = false
  | [] => rfl
  | x :: l => by rw [lessT, if_pos rfl]; exact lessT_same l
theorem u8_lt_iff (x y : UInt8) : ((x.toNat : Int) < (y.toNat : Int)) ↔ x.toNat < y.toNat := by omega

theorem index_dg (cs : Array Value) (k : Nat) (v : Value) (hk : k < 32) (hv : cs[k]? = some v) (w : World) : (Instr.index 23 (.agg cs) (.int .i64 (k : Int))).run Try.prog w = .ok v w := by
  have h2 : ((k : Int) < 32) := by omega
  simp [Instr.index, asIntOf, run_underlying Try.underlying23, part, Try.isAgg5, Try.sizeOf5, Sem.run_bind, h2, hv, Result.andThen]
  intro h; omega
set_option maxHeartbeats 2000000 in
theorem less_calls (a b : List UInt8) (w : World) (ha : a.length = 32) (hb : b.length = 32) :
    Calls Try.prog 10 #[dg a, dg b] w fun e w' => e = .returned (.bool (lessT a b)) ∧ Below w.heap.size w w' := by
  unfold dg
  have B0 := Hd.mk (((Blk.new w 23 (bs a))).alloc (.cells (bs b).toArray 23))
  have B1 := Hd.mk (Blk.new (w.alloc (.cells (bs a).toArray 23)) 23 (bs b))
  rw [World.size_alloc] at B1
  have HB : Hd (Below w.heap.size w ((w.alloc (.cells (bs a).toArray 23)).alloc (.cells (bs b).toArray 23))) := ⟨((Below.refl _ w).alloc (Nat.le_refl _) _).alloc (by simp) _⟩
  obtain ⟨wx, hwx⟩ : ∃ wx, wx = (w.alloc (.cells (bs a).toArray 23)).alloc (.cells (bs b).toArray 23) := ⟨_, rfl⟩
  go_enter Try.func10, Try.ntmps10
  go_wp2_with (refine wpList_load_row rfl 23 (.tmp 2) rfl w.heap.size rfl 23 (bs a).toArray (0, 0) (.array 32 5) B0.out Try.underlying23 rfl (info_dg.trans (by simp [ha])) ?_)
  go_loop [4, 5, 6, 8] (fun r _ _ i => r = .bool false ∧ ∃ k : Nat, k ≤ 32 ∧ i = .int .i64 k ∧ Hd (a.take k = b.take k)) (fun _ _ _ i => 32 - (intOf i).toNat)
  case atStart => exact ⟨rfl, 0, by omega, rfl, ⟨rfl⟩⟩
  case round =>
    obtain ⟨rfl, k, hk, rfl, HT⟩ := hrel
    by_cases hlt : k < 32
    · have hka : k < a.length := by omega
      have hkb : k < b.length := by omega
      have hcb := B1.out.cell (bs_at hkb)
      have hca := bs_at hka
      obtain ⟨x, hx⟩ : ∃ x, x = a[k] := ⟨_, rfl⟩
      obtain ⟨y, hy⟩ : ∃ y, y = b[k] := ⟨_, rfl⟩
      rw [← hx] at hca
      rw [← hy] at hcb
      have hix := index_dg (bs a).toArray k (.int .u8 (x.toNat : Int)) hlt (by simpa using hca) ((w.alloc (.cells (bs a).toArray 23)).alloc (.cells (bs b).toArray 23))
      have HX := Hd.mk hx
      have HY := Hd.mk hy
      clear hx hy hca
      by_cases hxy : x = y
      · have hne : ((x.toNat : Int) != (y.toNat : Int)) = false := by simp [hxy]
        have HXY := Hd.mk hxy
        clear hxy
        go_wp2_with (fail)
        go_round
        case rel => exact ⟨rfl, k + 1, by omega, by go_num, ⟨by rw [List.take_succ_eq_append_getElem hka, List.take_succ_eq_append_getElem hkb, HT.out, ← HX.out, ← HY.out, HXY.out]⟩⟩
        case measure => simp [intOf]; omega
      · have hne : ((x.toNat : Int) != (y.toNat : Int)) = true := by rw [bne_iff_ne]; intro h; exact hxy (UInt8.toNat_inj.1 (by omega))
        have HR : Hd (lessT a b = decide (x.toNat < y.toNat)) := ⟨by rw [HX.out, HY.out]; exact lessT_diff a b k hka hkb HT.out (by rw [← HX.out, ← HY.out]; exact hxy)⟩
        clear hxy
        go_wp2_with (fail)
        go_ret
        exact ⟨by rw [HR.out]; simp, HB.out⟩
    · obtain rfl : k = 32 := by omega
      have hab : Hd (a = b) := ⟨by have := HT.out; rwa [List.take_of_length_le (by omega), List.take_of_length_le (by omega)] at this⟩
      go_wp2_with (fail)
      go_ret
      exact ⟨by rw [hab.out, lessT_same]; rfl, HB.out⟩
end Go.Proofs.Ytohndablfjonhaa
