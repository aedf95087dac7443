/- The library's sums and differences with a carry, at this dump, over whole numbers. -/
import Derived.Shelf.Spec.BitsCarry
import Derived.Test.YtohndablfjonhaaProg
namespace Go.Proofs.Ytohndablfjonhaa
open Go.Shelf
def carryRen : Go.Shelf.Ren := ⟨fun | 25 => 14 | 26 => 16 | n => n, fun | 22 => 28 | n => n, fun | n => n⟩
theorem addLays : Go.Proofs.Lays7.n25 Try.prog carryRen := {
  mixed := by kernel_rfl
  f25 := Try.func14.trans (congrArg some (by kernel_rfl))
  t22 := Try.underlying28
  a22 := Try.isAgg28
  z22 := Try.sizeOf28
  v22 := Try.zeroValue28
  i22 := by kernel_rfl }
theorem subLays : Go.Proofs.Lays7.n26 Try.prog carryRen := {
  mixed := by kernel_rfl
  f26 := Try.func16.trans (congrArg some (by kernel_rfl))
  t22 := Try.underlying28
  a22 := Try.isAgg28
  z22 := Try.sizeOf28
  v22 := Try.zeroValue28
  i22 := by kernel_rfl }
theorem add64 (x y c s r : Nat) (hc : c ≤ 1) (hs : (x + y + c) % 18446744073709551616 = s) (hr : (x + y + c) / 18446744073709551616 = r) (w : World) : (callFunc 14 #[.int .u64 x, .int .u64 y, .int .u64 c]).run Try.prog w =
    .ok (.value (.tuple #[.int .u64 (s : Int), .int .u64 (r : Int)])) w := by subst hs; subst hr; exact Any7.bits_Add64 addLays x y c hc w
theorem sub64 (x y c s r : Nat) (hc : c ≤ 1) (hs : (x + 18446744073709551616 - y - c) % 18446744073709551616 = s) (hr : (if x < y + c then 1 else 0) = r) (w : World) : (callFunc 16 #[.int .u64 x, .int .u64 y, .int .u64 c]).run Try.prog w =
    .ok (.value (.tuple #[.int .u64 (s : Int), .int .u64 (r : Int)])) w := by subst hs; subst hr; exact Any7.bits_Sub64 subLays x y c hc w
end Go.Proofs.Ytohndablfjonhaa
