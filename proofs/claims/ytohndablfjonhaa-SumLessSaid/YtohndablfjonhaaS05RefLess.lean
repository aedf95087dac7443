/- Walks: the reference's order of digests. -/
import Derived.Test.YtohndablfjonhaaS05Less
namespace Go.Proofs.Ytohndablfjonhaa
open Go.RowKit Go.Sac
set_option linter.unusedVariables false
set_option linter.unusedSimpArgs false

set_option maxHeartbeats 2000000 in
theorem rless_calls (a b : List UInt8) (w : World) (ha : a.length = 32) (hb : b.length = 32) :
    Calls Try.prog 11 #[dg a, dg b] w fun e w' => e = .returned (.bool (lessT a b)) ∧ Below w.heap.size w w' := by
  unfold dg
  have B0 := Hd.mk (((Blk.new w 23 (bs a))).alloc (.cells (bs b).toArray 23))
  have B1 := Hd.mk (Blk.new (w.alloc (.cells (bs a).toArray 23)) 23 (bs b))
  rw [World.size_alloc] at B1
  have HB : Hd (Below w.heap.size w ((w.alloc (.cells (bs a).toArray 23)).alloc (.cells (bs b).toArray 23))) := ⟨((Below.refl _ w).alloc (Nat.le_refl _) _).alloc (by simp) _⟩
  go_enter Try.func11, Try.ntmps11
  go_wp2_with (fail)
  go_loopw [4, 5] (fun r i wr => r = .bool false ∧ ∃ k : Nat, k ≤ 32 ∧ i = .int .i64 k ∧ Hd (a.take k = b.take k) ∧ Hd (Blk wr w.heap.size 23 (bs a)) ∧ Hd (Blk wr (w.heap.size + 1) 23 (bs b)) ∧ Hd (Below w.heap.size w wr)) (fun _ i _ => 32 - (intOf i).toNat)
  case atStart => exact ⟨rfl, 0, by omega, rfl, ⟨rfl⟩, B0, B1, HB⟩
  case round =>
    clear B0 B1 HB
    obtain ⟨rfl, k, hk, rfl, HT, B0, B1, HB⟩ := hrel
    by_cases hlt : k < 32
    · have hka : k < a.length := by omega
      have hkb : k < b.length := by omega
      obtain ⟨x, hx⟩ : ∃ x, x = a[k] := ⟨_, rfl⟩
      obtain ⟨y, hy⟩ : ∃ y, y = b[k] := ⟨_, rfl⟩
      have hca : ∀ n, (wr.drewN n).cell? ⟨w.heap.size, k, none⟩ = some (.int .u8 (x.toNat : Int)) := fun n => by rw [hx]; exact B0.out.cell (bs_at hka)
      have hcb : ∀ n, (wr.drewN n).cell? ⟨w.heap.size + 1, k, none⟩ = some (.int .u8 (y.toNat : Int)) := fun n => by rw [hy]; exact B1.out.cell (bs_at hkb)
      have i1 : (0 : Int) ≤ (k : Int) := by omega
      have i2 : (k : Int) < (32 : Int) := by omega
      have har : Try.prog.arrayLen 23 = 32 := by kernel_rfl
      have HX := Hd.mk hx
      have HY := Hd.mk hy
      clear hx hy
      by_cases hxy : x = y
      · have hne : ((x.toNat : Int) != (y.toNat : Int)) = false := by simp [hxy]
        have HXY := Hd.mk hxy
        clear hxy
        go_wp2_with (fail)
        go_quiet (fail)
        go_wp2_with (fail)
        go_roundw
        case rel => exact ⟨rfl, k + 1, by omega, by go_num, ⟨by rw [List.take_succ_eq_append_getElem hka, List.take_succ_eq_append_getElem hkb, HT.out, ← HX.out, ← HY.out, HXY.out]⟩, B0, B1, ⟨below_drewN HB.out _⟩⟩
        case measure => simp [intOf]; omega
      · have hne : ((x.toNat : Int) != (y.toNat : Int)) = true := by rw [bne_iff_ne]; intro h; exact hxy (UInt8.toNat_inj.1 (by omega))
        have HR : Hd (lessT a b = decide (x.toNat < y.toNat)) := ⟨by rw [HX.out, HY.out]; exact lessT_diff a b k hka hkb HT.out (by rw [← HX.out, ← HY.out]; exact hxy)⟩
        clear hxy
        go_wp2_with (fail)
        go_quiet (fail)
        go_wp2_with (fail)
        generalize hwq : World.drewN wr _ = wq
        have hca2 : ∀ n, (wq.drewN n).cell? ⟨w.heap.size, k, none⟩ = some (.int .u8 (x.toNat : Int)) := fun n => by rw [← hwq]; exact hca 0
        have hcb2 : ∀ n, (wq.drewN n).cell? ⟨w.heap.size + 1, k, none⟩ = some (.int .u8 (y.toNat : Int)) := fun n => by rw [← hwq]; exact hcb 0
        have HB2 : Hd (Below w.heap.size w wq) := ⟨by rw [← hwq]; exact below_drewN HB.out _⟩
        clear hca hcb hwq
        go_quiet (fail)
        go_wp2_with (fail)
        go_ret
        exact ⟨by rw [HR.out]; simp, below_drewN HB2.out _⟩
    · obtain rfl : k = 32 := by omega
      have hab : Hd (a = b) := ⟨by have := HT.out; rwa [List.take_of_length_le (by omega), List.take_of_length_le (by omega)] at this⟩
      go_wp2_with (fail)
      go_ret
      exact ⟨by rw [hab.out, lessT_same]; rfl, HB.out⟩
end Go.Proofs.Ytohndablfjonhaa
