/- Walks: path.Last and ref15.Last answer alike. -/
import Derived.Test.YtncagcbdgimpfaaDoorT15RefLast
import Derived.Test.YtncagcbdgimpfaaDoorT15RefJoin
import Derived.Test.YtncagcbdgimpfaaDoorT15Joins
namespace Go.Proofs.YtncagcbdgimpfaaDoor
open Go.RowKit Go.Sac Go.Shelf
set_option linter.unusedVariables false
set_option linter.unusedSimpArgs false

theorem rjoin_is (b1 b2 : Bool) (A1 A2 : Option Addr) (n1 c1 n2 c2 : Nat) (xs ys : List ByteArray) (w : World) (hx : Rc w A1 (svs xs)) (hy : Rc w A2 (svs ys)) (e1 : n1 = xs.length) (e2 : n2 = ys.length) (hc2 : n2 ≤ c2) (hn : (xs.length + ys.length) * 16 ≤ 140737488355328) :
    Calls Tryd.prog 22 #[.agg #[.bool b1, .slice A1 n1 c1], .agg #[.bool b2, .slice A2 n2 c2]] w fun e w' => RetPath (jb b1 b2) (jx b2 xs ys) w e w' :=
  rjoin_calls b1 b2 A1 A2 n1 c1 n2 c2 xs ys w hx hy e1 e2 hc2 hn
/-- both answer so -/
def LastIs (b : Bool) (A : Option Addr) (c : Nat) (xs : List ByteArray) (b' : Bool) (X : List ByteArray) (z : ByteArray) (er : Int) : Prop :=
  ∀ w, Rc w A (svs xs) → Calls Tryd.prog 19 #[.agg #[.bool b, .slice A xs.length c]] w (RetL b' X z er w) ∧ Calls Tryd.prog 20 #[.agg #[.bool b, .slice A xs.length c]] w (RetL b' X z er w)
theorem last_both (b : Bool) (A : Option Addr) (c : Nat) (xs : List ByteArray) (w0 : World) (h0 : Rc w0 A (svs xs)) (hc : xs.length ≤ c) (hn : xs.length ≤ 1000) :
    ∃ b' X z er, LastIs b A c xs b' X z er ∧ X.length ≤ 1000 ∧ (er = 0 ∨ er = 11) := by
  rcases List.eq_nil_or_concat xs with rfl | ⟨zs, z, hX⟩
  · exact ⟨false, [], ⟨#[]⟩, 11, fun w _ => ⟨last_none b A c w, rlast_none b A c w⟩, by simp, .inr rfl⟩
  · rw [List.concat_eq_append] at hX
    have hl : xs.length = zs.length + 1 := by rw [hX]; simp
    obtain ⟨bk, off, rfl, _⟩ := h0.form (by rw [svs_len]; omega)
    have hcell : ∀ w, Rc w (some ⟨bk, off, none⟩) (svs xs) → w.cell? ⟨bk, off + zs.length, none⟩ = some (.string z) ∧ Rc w (some ⟨bk, off, none⟩) (svs zs) := by
      intro w hr
      rw [hX, svs_app] at hr
      refine ⟨?_, hr.app⟩
      obtain ⟨b2, o2, e, hh⟩ := hr zs.length (.string z) (by rw [List.getElem?_append_right (by rw [svs_len]; exact Nat.le_refl _), svs_len]; simp [svs])
      injection e with e
      injection e with e1 e2 _
      subst e1; subst e2
      exact hh
    cases hup : (z.toList == [46, 46])
    · refine ⟨b, zs, z, 0, fun w hr => ⟨?_, ?_⟩, by omega, .inl rfl⟩
      · exact last_go b bk off zs.length xs.length c z zs w (hcell w hr).1 (hcell w hr).2 hl hc rfl (by omega) hup
      · exact rlast_go b bk off zs.length xs.length c z zs w (hcell w hr).1 (hcell w hr).2 hl hc rfl (by omega) hup
    · refine ⟨false, [], ⟨#[]⟩, 11, fun w hr => ⟨?_, ?_⟩, by simp, .inr rfl⟩
      · exact last_up b bk off zs.length xs.length c z w (hcell w hr).1 hl (by omega) hup
      · exact rlast_up b bk off zs.length xs.length c z w (hcell w hr).1 hl (by omega) hup
end Go.Proofs.YtncagcbdgimpfaaDoor
