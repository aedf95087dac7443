/- Walks: ref15.Long: the letters of a path's names, and one more for each. -/
import Derived.Test.YtncagcbdgimpfaaDoorT15Names
namespace Go.Proofs.YtncagcbdgimpfaaDoor
open Go.RowKit Go.Sac Go.Shelf
set_option linter.unusedVariables false
set_option linter.unusedSimpArgs false

theorem rlong_calls (b : Bool) (A : Option Addr) (n c : Nat) (xs : List ByteArray) (w : World) (hx : Rc w A (svs xs)) (e1 : n = xs.length) (ht : totS xs ≤ 1048576) :
    Calls Tryd.prog 18 #[.agg #[.bool b, .slice A n c]] w fun e w' => e = .returned (.int .i64 (totS xs : Nat)) ∧ Below w.heap.size w w' := by
  subst e1
  have hxl : xs.length ≤ 1048576 := Nat.le_trans (totS_len xs) ht
  have HX := Hd.mk hx
  have HT := Hd.mk ht
  clear hx ht
  have HB : Hd (Below w.heap.size w (w.alloc (.cells #[.bool b, .slice A xs.length c] 25))) := ⟨(Below.refl _ w).alloc (Nat.le_refl _) _⟩
  have B0 := Hd.mk (Blk.new w 25 [.bool b, .slice A xs.length c])
  go_enter Tryd.func18, Tryd.ntmps18
  go_wp2_with (fail)
  change Code.wp Tryd.prog _ _ _ (w.alloc (.cells #[.bool b, .slice A xs.length c] 25))
  generalize (w.alloc (.cells #[.bool b, .slice A xs.length c] 25)) = w0 at *
  go_loopw [3, 4] (fun n i wr => ∃ k : Nat, k ≤ xs.length ∧ i = .int .i64 k ∧ n = .int .i64 (totS (xs.take k) : Nat) ∧ w0 = wr) (fun _ i _ => xs.length - (intOf i).toNat)
  case atStart => exact ⟨0, by omega, rfl, rfl, rfl⟩
  case round =>
    obtain ⟨k, hk, rfl, rfl, rfl⟩ := hrel
    have k1 := B0.out.cell (i := 1) rfl
    by_cases hlt : k < xs.length
    · obtain ⟨bk, off, rfl, hcx⟩ := (HX.out.below HB.out) k _ (sv_at hlt)
      have HST := Hd.mk (totS_take xs k hlt)
      have hb1 := totS_take_le xs (k + 1)
      have hb2 := totS_take_le xs k
      have hb0 := HT.out
      rw [HST.out] at hb1
      go_wp2_with (fail)
      go_roundw
      case rel => exact ⟨k + 1, by omega, by go_num, by rw [HST.out]; go_num, trivial⟩
      case measure => simp [intOf]; omega
    · obtain rfl : k = xs.length := by omega
      rw [List.take_length]
      go_wp2_with (fail)
      go_ret
      exact ⟨rfl, HB.out⟩
end Go.Proofs.YtncagcbdgimpfaaDoor
