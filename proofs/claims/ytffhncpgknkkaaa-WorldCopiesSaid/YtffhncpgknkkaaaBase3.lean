/- BASE3: more words for the walks of the seats behind the first. No program in it. -/
import Derived.Test.YtffhncpgknkkaaaBase2
namespace Go.Sac
open Go.RowKit
set_option linter.unusedVariables false
set_option linter.unusedSimpArgs false

/-- The law's call answers 'true', and what lay before lies as it lay. -/
def RetT (w : World) (e : Ending) (w' : World) : Prop := e = .returned (.bool true) ∧ Below w.heap.size w w'
theorem str_eq (l m : List UInt8) : ((⟨l.toArray⟩ : ByteArray).toList == (⟨m.toArray⟩ : ByteArray).toList) = (l == m) := by
  have h : ∀ l : List UInt8, (⟨l.toArray⟩ : ByteArray).toList = l := fun l => by rw [ByteArray.toList_eq]
  rw [h, h]
theorem ints_all (ls ms : List Int) (h : ms.length = ls.length) (hs : ls.take ls.length = ms.take ls.length) : (ls == ms) = true := by
  rw [List.take_length, ← h, List.take_length] at hs
  simp [hs]
theorem ints_not (ls ms : List Int) (k : Nat) (h1 : k < ls.length) (h2 : k < ms.length) (hs : ¬ ls[k] = ms[k]) : (ls == ms) = false := by
  rw [beq_eq_false_iff_ne]
  rintro rfl
  exact hs rfl
theorem own_form {w : World} {base n : Nat} {e : TypeId} {size : Nat} {v : Value} {xs : List Value} (h : w.ownsRow base e size v n xs) (hn : 0 < n) :
    ∃ g cap, v = .slice (some ⟨g, 0, none⟩) n cap ∧ base ≤ g ∧ g < w.heap.size := by
  rcases h.2 with ⟨_, h0⟩ | ⟨g, cap, cur, rfl, hb, hg, _⟩
  · omega
  · exact ⟨g, cap, rfl, hb, (Array.getElem?_eq_some_iff.1 hg).1⟩
theorem own_put {w w2 : World} {base g n cap j : Nat} {e : TypeId} {xs : List Value} {u : Value} (hw : (w.setCell ⟨g, j, none⟩ u).drew = w2) (h : w.ownsRow base e 1 (.slice (some ⟨g, 0, none⟩) n cap) n xs) :
    w2.ownsRow base e 1 (.slice (some ⟨g, 0, none⟩) n cap) n (xs.set j u) := by
  subst hw
  have h1 := (h.stored j u).1
  exact own_below h1 ((Below.refl _ _).drew)
theorem below_put {B g j : Nat} {w0 w w2 : World} {u : Value} (hw : (w.setCell ⟨g, j, none⟩ u).drew = w2) (hb : Below B w0 w) (hg : B ≤ g) : Below B w0 w2 := by
  subst hw
  exact (hb.setCell (p := ⟨g, j, none⟩) hg u).drew
end Go.Sac
