/- The world that a row's witness begins in, where the row lists variables: laid by the function, no run. -/
import Derived.Test.YtncagcbdgimpfaaDoorRows
import Derived.Test.YtncagcbdgimpfaaDoorCards
import Derived.Test.YtncagcbdgimpfaaDoorTie
import Derived.Lay
import Derived.LaidMore
import Derived.SevenTiedAt
import Derived.Stop.Joined
namespace Go.Proofs.YtncagcbdgimpfaaDoor
open Go
def doorList : List (String × DataW Unit) := [("unicode/utf8.acceptRanges", Rows.laid_unicode_utf8_acceptRanges), ("unicode/utf8.first", Rows.laid_unicode_utf8_first)]
set_option maxRecDepth 100000
theorem doorShape (os : Os) (args : Array Value) : ((World.laidAll Tryd.prog os doorList).forCall (fun _ _ => 0) ⟨#[], args, []⟩).Shaped Tryd.prog := World.shaped_of_ZipB (by kernel_rfl) (by kernel_rfl)
theorem doorMet (os : Os) (args : Array Value) : laidMetH Tryd.prog doorList ((World.laidAll Tryd.prog os doorList).forCall (fun _ _ => 0) ⟨#[], args, []⟩).memory := by
  rw [MakeChecks.laidMetH_plain _ _ _ (by kernel_rfl)]
  exact laidMet_laidAll _ (by kernel_rfl) (by kernel_rfl)
end Go.Proofs.YtncagcbdgimpfaaDoor
