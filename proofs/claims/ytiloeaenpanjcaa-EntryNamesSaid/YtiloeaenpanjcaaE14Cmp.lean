/- Walks: which of two names is less, by the library; the comparisons that are handed to it. -/
import Derived.Lib.Strings
import Derived.Lib.Slices
import Derived.Lib.Walk
import Derived.Lib.Bytealg
import Derived.Test.YtiloeaenpanjcaaENamed
namespace Go.Proofs.Ytiloeaenpanjcaa
open Go.RowKit Go.Sac
set_option linter.unusedVariables false
set_option linter.unusedSimpArgs false

/-- an entry: a name, and a node -/
abbrev Ent := ByteArray × Int
def ev (x : Ent) : Value := .agg #[.string x.1, .int .i64 x.2]
def cmpN (a b : ByteArray) : Int := Lib.compareBytes a.data.toList b.data.toList
set_option maxHeartbeats 1000000 in
set_option maxRecDepth 100000 in
theorem cmpstr_calls (a b : ByteArray) (w : World) : Calls Try.prog 52 #[.string a, .string b] w fun e w' => e = .returned (.int .i64 (cmpN a b)) ∧ w' = w := by
  go_enter Try.func52, Try.ntmps52
  go_wp2
  rw [run_callFunc_extern Try.func54 (by kernel_rfl) (by kernel_rfl) (by kernel_rfl) (e := Extern.BytealgCompare.compare) (by kernel_rfl), Lib.run_compareString]
  simp only [Result.andThen]
  rw [Oper.upon_value]
  go_wp2
  go_ret
  exact ⟨rfl, rfl⟩
theorem compare_calls (a b : ByteArray) (w : World) : Calls Try.prog 45 #[.string a, .string b] w fun e w' => e = .returned (.int .i64 (cmpN a b)) ∧ w' = w := by
  go_enter Try.func45, Try.ntmps45
  go_wp2_with (go_at_call 52; refine (cmpstr_calls _ _ _).mono ?_; rintro e w' ⟨rfl, rfl⟩)
  go_ret
  exact ⟨rfl, rfl⟩
/-- two entries, by their names -/
theorem at2_calls (x y : Ent) (w : World) : Calls Try.prog 47 #[ev x, ev y] w fun e w' => e = .returned (.int .i64 (cmpN x.1 y.1)) ∧ Below w.heap.size w w' := by
  obtain ⟨a, n⟩ := x
  obtain ⟨b, m⟩ := y
  have HB : Hd (Below w.heap.size w ((w.alloc (.cells #[.string a, .int .i64 n] 31)).alloc (.cells #[.string b, .int .i64 m] 31))) := ⟨((Below.refl _ w).alloc (Nat.le_refl _) _).alloc (by simp) _⟩
  unfold ev
  go_enter Try.func47, Try.ntmps47
  go_wp2_with (go_at_call 45; refine (compare_calls a b _).mono ?_; rintro e w' ⟨rfl, rfl⟩)
  go_ret
  exact ⟨rfl, HB.out⟩
/-- an entry's name, and a name -/
theorem at1_calls (x : Ent) (b : ByteArray) (w : World) : Calls Try.prog 44 #[ev x, .string b] w fun e w' => e = .returned (.int .i64 (cmpN x.1 b)) ∧ Below w.heap.size w w' := by
  obtain ⟨a, n⟩ := x
  have HB : Hd (Below w.heap.size w (w.alloc (.cells #[.string a, .int .i64 n] 31))) := ⟨(Below.refl _ w).alloc (Nat.le_refl _) _⟩
  unfold ev
  go_enter Try.func44, Try.ntmps44
  go_wp2_with (go_at_call 45; refine (compare_calls a b _).mono ?_; rintro e w' ⟨rfl, rfl⟩)
  go_ret
  exact ⟨rfl, HB.out⟩
end Go.Proofs.Ytiloeaenpanjcaa
