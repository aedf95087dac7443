/- A10It: rows of items: what they hold lies in memory. -/
import Derived.Test.YtpahmlgbljfcjaaA10Of
import Derived.Test.YtpahmlgbljfcjaaP10
namespace Go.Proofs.Ytpahmlgbljfcjaa
open Go.RowKit Go.Sac
set_option linter.unusedVariables false
set_option linter.unusedSimpArgs false
/-- an item, as it lies -/
structure It where
  at_ : Int
  A : Option Addr
  b : List UInt8
  c : Nat
def It.cells (x : It) : List Value := [.int .i64 x.at_, .slice x.A x.b.length x.c]
def It.key (x : It) : Int × ByteArray := (x.at_, ⟨x.b.toArray⟩)
def its (l : List It) : List Value := rowK It.cells l
def Held (w : World) (l : List It) : Prop := ∀ x ∈ l, Rc w x.A (bs x.b) ∧ x.b.length ≤ x.c
theorem Held.below {w w' : World} {l : List It} (h : Held w l) (hb : Below w.heap.size w w') : Held w' l := fun x hx => ⟨(h x hx).1.below hb, (h x hx).2⟩
theorem item_info : (Try.prog.info? 26).map (·.size) = some 2 := by kernel_rfl
theorem of_it (x : It) (w : World) (h : Rc w x.A (bs x.b)) : Calls Try.prog 11 #[.agg x.cells.toArray] w fun e w' => e = .returned (ikey x.key) ∧ Below w.heap.size w w' := of_calls x.at_ x.A x.c x.b w h
end Go.Proofs.Ytpahmlgbljfcjaa
