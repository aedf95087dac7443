/- The library's count of a byte's ones, at this dump (the laying as the shelf's tools write it, in plain words). -/
import Derived.Shelf.Small.Bits
import Derived.Test.YtpgkfabiflhkfaaProg
namespace Go.Proofs.Ytpgkfabiflhkfaa
open Go.Shelf
def onesRen : Go.Shelf.Ren := ⟨fun | 135 => 28 | n => n, fun | 5 => 5 | 3 => 3 | 9 => 9 | n => n, fun | n => n⟩
theorem onesLays : Go.Proofs.Lays.n135 Try.prog onesRen := {
  mixed := by kernel_rfl
  f135 := Try.func28.trans (congrArg some (by kernel_rfl))
  t3 := Try.underlying3
  a3 := Try.isAgg3
  z3 := Try.sizeOf3
  v3 := Try.zeroValue3
  t5 := Try.underlying5
  a5 := Try.isAgg5
  z5 := Try.sizeOf5
  v5 := Try.zeroValue5
  t9 := Try.underlying9
  a9 := Try.isAgg9
  z9 := Try.sizeOf9
  v9 := Try.zeroValue9 }
theorem ones_calls (x : Int) (w : World) (h0 : 0 ≤ x) (h1 : x ≤ 255) :
    Calls Try.prog 28 #[.int .u8 x] w fun e w' => e = .returned (.int .i64 (Lib.onesCount x.toNat)) ∧ w' = w := Any.bits_OnesCount8 onesLays x w h0 h1
end Go.Proofs.Ytpgkfabiflhkfaa
