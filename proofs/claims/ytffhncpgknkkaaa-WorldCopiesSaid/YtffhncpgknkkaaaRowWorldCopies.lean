/- The row of the law WorldCopies: for every input, no condition beside the form's own the call returns true, and each argument reads behind the call as it read before. -/
import Derived.Test.YtffhncpgknkkaaaRows
import Derived.Test.YtffhncpgknkkaaaW06LawCopies
import Derived.Test.YtffhncpgknkkaaaRowBase
import Derived.WalkKit
import Derived.ProofKit
import Derived.OpenShut
import Derived.ShutString
import Derived.ChangeOld
import Derived.Below
import Derived.SizedLaws
import Derived.JoinedCond
import Derived.Test.YtffhncpgknkkaaaRowDo
namespace Go.Proofs.Ytffhncpgknkkaaa.worldCopies
open Go.ChangeShapes Go.WideShapes Go.ChangeAt Go.RowKit Go.Sac
open Go.ChangeMaps (open_string shut_string)
set_option linter.unusedVariables false
set_option linter.unusedSimpArgs false
theorem own : ownKnob Try.prog.godebug = none := by kernel_rfl
theorem laidOut : laidOutB Try.prog = true := by kernel_rfl
set_option maxRecDepth 100000 in
theorem lifted (os : Os) (started : os.Started) (H : Type) (enc : TypeId × Value → H) :
    ReturnsInHanded {} Try.checked os 9 .any (Rows.worldCopiesSpec.pre6 enc Try.prog Try.f9 Rows.worldCopiesRow.domain false) (Rows.worldCopiesSpec.post enc Try.prog Try.f9 false true false false) := by
  refine returnsInHanded_of_change_sized (C := Try.checked) own started (by kernel_rfl) Try.func9
    (ChangeSpec.witness6 (enc := enc) (C := Try.checked) false ⟨#[], #[.slice none 0 0, .slice none 0 0], []⟩ 8 (by kernel_rfl) (by kernel_rfl) (by kernel_rfl) (by kernel_rfl)) ?_
  intro W base args ds gs before hval0 hW hcnd hsz0 _
  have hsz : (DataW.weightsEach Try.prog (Try.f9.params.toList ++ Rows.worldCopiesSpec.plain.varTypes Try.prog) (ds ++ gs)).all (· ≤ reachBytes) = true := hsz0
  have hval : ∀ (j : Nat) t v, Try.f9.params[j]? = some t → args[j]? = some v → Value.okWide Try.prog W .any base t v := hval0
  have hW' := hW
  obtain ⟨p, q, hA0, hV, rfl, hfz, hnd⟩ := hW
  have hA : DataW.TrodAll enc Try.prog W 0 (fun _ => true) true Try.f9.params.toList args.toList ds p := hA0
  rw [Try.params9] at hA hval hsz
  obtain ⟨v0, vs0, d0, ds0, p0, q0, hargs, rfl, rfl, h0, r0⟩ := trodAll_cons hA
  obtain ⟨v1, vs1, d1, ds1, p1, q1, rfl, rfl, rfl, h1, r1⟩ := trodAll_cons r0
  obtain ⟨rfl, rfl, rfl⟩ := trodAll_nil r1
  obtain rfl : args = #[v0, v1] := by cases args; simp_all
  obtain ⟨rfl, rfl⟩ := trodVars_none hV
  obtain ⟨a0, len0, cap0, rfl⟩ := okWide_slice Try.underlying40 (hval 0 40 v0 rfl rfl)
  have k0 := h0
  have lt0 : ∀ x ∈ p0, x.block < W.heap.size := by obtain ⟨m, hm⟩ := k0; exact DataW.trod_lt m _ _ _ hm
  obtain ⟨fuel0, hf0⟩ := h0
  have hw0 : ∀ m ∈ d0.weights Try.prog 40, m ≤ reachBytes := fun m hm => by have := List.all_eq_true.1 hsz m (DataW.weights_mem_each (j := 0) (t := 40) (d := d0) rfl rfl m hm); simpa using this
  obtain ⟨z0, rfl, hc0, hm0, hr0, hi0⟩ := open_dos hf0 hw0
  obtain ⟨a1, len1, cap1, rfl⟩ := okWide_slice Try.underlying40 (hval 1 40 v1 rfl rfl)
  have k1 := h1
  have lt1 : ∀ x ∈ p1, x.block < W.heap.size := by obtain ⟨m, hm⟩ := k1; exact DataW.trod_lt m _ _ _ hm
  obtain ⟨fuel1, hf1⟩ := h1
  have hw1 : ∀ m ∈ d1.weights Try.prog 40, m ≤ reachBytes := fun m hm => by have := List.all_eq_true.1 hsz m (DataW.weights_mem_each (j := 1) (t := 40) (d := d1) rfl rfl m hm); simpa using this
  obtain ⟨z1, rfl, hc1, hm1, hr1, hi1⟩ := open_dos hf1 hw1
  clear hA0 hval0 hsz0 hsz
  refine (row_copies a0 cap0 z0 a1 cap1 z1 W hr0 hc0 (by omega) hi0 hr1 hc1 (by omega) hi1).mono fun e W' ⟨he, bel⟩ => ?_
  subst he
  exact ⟨_, rfl, _, _, _, [], _, [], hW', trodAll_mk1 (shut_bool Try.underlying4 _), (trodAll_cons_mk (Below.trod laidOut (by kernel_rfl) (of_decide_eq_true (by kernel_rfl)) k0 bel lt0) (trodAll_cons_mk (Below.trod laidOut (by kernel_rfl) (of_decide_eq_true (by kernel_rfl)) k1 bel lt1) trodAll_mk0)), rfl, bel.frame _, fun h => by cases h⟩
theorem over : Rows.worldCopiesRow.holds Try.pinned (OpenSpec.ofChange Rows.worldCopiesSpec) :=
  OpenClaim.holds_of_wide 9 Try.f9 rfl rfl rfl rfl rfl rfl rfl ⟨rfl, rfl, rfl, rfl, rfl⟩ rfl rfl rfl rfl rfl (by kernel_rfl) Try.func9 (by kernel_rfl)
    (of_decide_eq_true (by kernel_rfl)) (by unfold Func.isWrapper; first | (rw [if_pos (by decide +kernel)]; kernel_rfl) | (rw [if_neg (by decide +kernel)]; exact ⟨rfl, rfl⟩))
    (fun os started H enc _ => lifted os started H enc)
theorem proved : Rows.WorldCopiesSaid := over
end Go.Proofs.Ytffhncpgknkkaaa.worldCopies
namespace Go.Proofs.Ytffhncpgknkkaaa
theorem worldCopies_holds : Rows.WorldCopiesSaid := worldCopies.proved
end Go.Proofs.Ytffhncpgknkkaaa
