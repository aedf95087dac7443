/- Walks of the functions that the law reaches. -/
import Derived.Test.YtiloeaenpanjcaaProg
import Derived.Test.YtiloeaenpanjcaaBase
namespace Go.Proofs.Ytiloeaenpanjcaa
open Go.RowKit Go.Sac
set_option linter.unusedVariables false
set_option linter.unusedSimpArgs false

theorem info_u8 : (Try.prog.info? 5).map (fun i => (i.zero, i.size, i.bytes)) = some (some (.int .u8 0), 1, 1) := by kernel_rfl

/-- A number's lowest bytes, the greatest first. -/
def putB (n : Nat) : Nat → List UInt8
  | 0 => []
  | k + 1 => UInt8.ofNat (n / 256 ^ k) :: putB n k
theorem putB_len (n k : Nat) : (putB n k).length = k := by induction k with | zero => rfl | succ k ih => simp [putB, ih]
theorem putB_row (n m i : Nat) (x : UInt8) (h : i < m) : (List.replicate (m - i) (0 : UInt8) ++ putB n i).set (m - 1 - i) x = List.replicate (m - (i + 1)) 0 ++ (x :: putB n i) := by
  obtain ⟨j, rfl⟩ : ∃ j, m = i + j + 1 := ⟨m - i - 1, by omega⟩
  rw [show i + j + 1 - i = j + 1 by omega, show i + j + 1 - 1 - i = j by omega, show i + j + 1 - (i + 1) = j by omega]
  rw [List.replicate_succ', List.append_assoc, List.set_append_right _ _ (by simp)]
  simp
theorem put_byte (n k : Nat) (hk : k < 8) : Value.int .u8 (((n : Int) / 2 ^ (8 * k)) % 256) = .int .u8 ((UInt8.ofNat (n / 256 ^ k)).toNat : Int) := by
  have e : (2 : Int) ^ (8 * k) = ((256 ^ k : Nat) : Int) := by
    rw [show (256 : Nat) = 2 ^ 8 from rfl, ← Nat.pow_mul, Int.natCast_pow]; rfl
  rw [e, UInt8.toNat_ofNat']
  congr 1
def putW (wide : Int) : Nat := (max 0 (min wide 8)).toNat

set_option maxHeartbeats 400000 in
theorem put_calls (n : Nat) (wide : Int) (w : World) (hn : n < 18446744073709551616) :
    Calls Try.prog 38 #[.int .u64 (n : Int), .int .i64 wide] w fun e w' => RetB 5 (putB n (putW wide)) w e w' := by
  obtain ⟨m, hm⟩ : ∃ m : Nat, max 0 (min wide 8) = (m : Int) := ⟨(max 0 (min wide 8)).toNat, by omega⟩
  have hm8 : m ≤ 8 := by omega
  have hk : putW wide = m := by unfold putW; omega
  rw [hk]
  clear hk
  have hmake := run_make_u8 (P := Try.prog) 42 5 Try.underlying42 info_u8 m (by omega)
  go_enter Try.func38, Try.ntmps38
  go_wp2
  clear hmake
  have HM := Hd.mk hm
  clear hm
  have HW : Hd (Blk (w.alloc (.cells (zeroRow m) 5)) w.heap.size 5 (bs (List.replicate (m - 0) 0 ++ putB n 0))) := ⟨by rw [putB, List.append_nil]; exact Blk.new w 5 (bs (List.replicate m 0))⟩
  have HB := Hd.mk ((Below.refl w.heap.size w).alloc (Nat.le_refl _) (.cells (zeroRow m) 5))
  go_loopw [13] (fun i wr => ∃ k : Nat, k ≤ m ∧ i = .int .i64 k ∧ Hd (Blk wr w.heap.size 5 (bs (List.replicate (m - k) 0 ++ putB n k))) ∧ Hd (Below w.heap.size w wr)) (fun i _ => m - (intOf i).toNat)
  case atStart => exact ⟨0, Nat.zero_le _, rfl, HW, HB⟩
  case round =>
    clear HW HB
    obtain ⟨k, hk, rfl, HW, HB⟩ := hrel
    by_cases hlt : k < m
    · have hx : ∃ u, wr.cell? ⟨w.heap.size, m - 1 - k, none⟩ = some u := ⟨_, HW.out.cell (bs_at (by simp [putB_len]; omega))⟩
      obtain ⟨u, hx⟩ := hx
      have hf := HW.out.frz (m - 1 - k)
      go_wp2
      go_roundw
      case rel =>
        have hb := HW.out.set (m - 1 - k) (.int .u8 ((UInt8.ofNat (n / 256 ^ k)).toNat : Int))
        rw [show Value.int .u8 ((UInt8.ofNat (n / 256 ^ k)).toNat : Int) = u8v (UInt8.ofNat (n / 256 ^ k)) from rfl, bs, ← List.map_set, putB_row n m k _ hlt] at hb
        refine ⟨k + 1, by omega, by go_num, ⟨?_⟩, ⟨HB.out.setCell (Nat.le_refl _) _⟩⟩
        rw [put_byte n k (by omega)]
        exact hb
      case measure => simp [intOf]; omega
    · obtain rfl : k = m := by omega
      have ho := HW.out.own (Nat.le_refl _) k (by simp [putB_len]) (by simp [putB_len]; omega)
      go_wp2
      go_ret
      exact ⟨_, rfl, by rw [putB_len]; simpa using ho, HB.out⟩
end Go.Proofs.Ytiloeaenpanjcaa
